/- The walk of laws.FnCounterexample. Condition: the argument is a slice of bytes. -/
import Derived.Test.YtnifgfnhcjhodaaQG
set_option linter.unusedVariables false
set_option linter.unusedSimpArgs false
namespace Go.Proofs.Ytnifgfnhcjhodaa
open Go.Conc Go.RowKit

noncomputable def bCE : Code := Try.f3.body.getD .skip
noncomputable def rCE5 : Array Oper := co (cl (ct 4 bCE))
noncomputable def rCE16 : Array Oper := co (cl (ct 7 bCE))
set_option maxRecDepth 10000 in
theorem arr120 {motive : Array Value → Prop} (k : ∀ e0 e1 e2 e3 e4 e5 e6 e7 e8 e9 e10 e11 e12 e13 e14 e15 e16 e17 e18 e19 e20 e21 e22 e23 e24 e25 e26 e27 e28 e29 e30 e31 e32 e33 e34 e35 e36 e37 e38 e39 e40 e41 e42 e43 e44 e45 e46 e47 e48 e49 e50 e51 e52 e53 e54 e55 e56 e57 e58 e59 e60 e61 e62 e63 e64 e65 e66 e67 e68 e69 e70 e71 e72 e73 e74 e75 e76 e77 e78 e79 e80 e81 e82 e83 e84 e85 e86 e87 e88 e89 e90 e91 e92 e93 e94 e95 e96 e97 e98 e99 e100 e101 e102 e103 e104 e105 e106 e107 e108 e109 e110 e111 e112 e113 e114 e115 e116 e117 e118 e119 : Value, motive #[e0, e1, e2, e3, e4, e5, e6, e7, e8, e9, e10, e11, e12, e13, e14, e15, e16, e17, e18, e19, e20, e21, e22, e23, e24, e25, e26, e27, e28, e29, e30, e31, e32, e33, e34, e35, e36, e37, e38, e39, e40, e41, e42, e43, e44, e45, e46, e47, e48, e49, e50, e51, e52, e53, e54, e55, e56, e57, e58, e59, e60, e61, e62, e63, e64, e65, e66, e67, e68, e69, e70, e71, e72, e73, e74, e75, e76, e77, e78, e79, e80, e81, e82, e83, e84, e85, e86, e87, e88, e89, e90, e91, e92, e93, e94, e95, e96, e97, e98, e99, e100, e101, e102, e103, e104, e105, e106, e107, e108, e109, e110, e111, e112, e113, e114, e115, e116, e117, e118, e119]) : ∀ T : Array Value, T.size = 120 → motive T := by
  intro T h
  obtain ⟨l⟩ := T
  have h : l.length = 120 := h
  obtain ⟨e0, l0, rfl, h0⟩ := lcons h
  obtain ⟨e1, l1, rfl, h1⟩ := lcons h0
  obtain ⟨e2, l2, rfl, h2⟩ := lcons h1
  obtain ⟨e3, l3, rfl, h3⟩ := lcons h2
  obtain ⟨e4, l4, rfl, h4⟩ := lcons h3
  obtain ⟨e5, l5, rfl, h5⟩ := lcons h4
  obtain ⟨e6, l6, rfl, h6⟩ := lcons h5
  obtain ⟨e7, l7, rfl, h7⟩ := lcons h6
  obtain ⟨e8, l8, rfl, h8⟩ := lcons h7
  obtain ⟨e9, l9, rfl, h9⟩ := lcons h8
  obtain ⟨e10, l10, rfl, h10⟩ := lcons h9
  obtain ⟨e11, l11, rfl, h11⟩ := lcons h10
  obtain ⟨e12, l12, rfl, h12⟩ := lcons h11
  obtain ⟨e13, l13, rfl, h13⟩ := lcons h12
  obtain ⟨e14, l14, rfl, h14⟩ := lcons h13
  obtain ⟨e15, l15, rfl, h15⟩ := lcons h14
  obtain ⟨e16, l16, rfl, h16⟩ := lcons h15
  obtain ⟨e17, l17, rfl, h17⟩ := lcons h16
  obtain ⟨e18, l18, rfl, h18⟩ := lcons h17
  obtain ⟨e19, l19, rfl, h19⟩ := lcons h18
  obtain ⟨e20, l20, rfl, h20⟩ := lcons h19
  obtain ⟨e21, l21, rfl, h21⟩ := lcons h20
  obtain ⟨e22, l22, rfl, h22⟩ := lcons h21
  obtain ⟨e23, l23, rfl, h23⟩ := lcons h22
  obtain ⟨e24, l24, rfl, h24⟩ := lcons h23
  obtain ⟨e25, l25, rfl, h25⟩ := lcons h24
  obtain ⟨e26, l26, rfl, h26⟩ := lcons h25
  obtain ⟨e27, l27, rfl, h27⟩ := lcons h26
  obtain ⟨e28, l28, rfl, h28⟩ := lcons h27
  obtain ⟨e29, l29, rfl, h29⟩ := lcons h28
  obtain ⟨e30, l30, rfl, h30⟩ := lcons h29
  obtain ⟨e31, l31, rfl, h31⟩ := lcons h30
  obtain ⟨e32, l32, rfl, h32⟩ := lcons h31
  obtain ⟨e33, l33, rfl, h33⟩ := lcons h32
  obtain ⟨e34, l34, rfl, h34⟩ := lcons h33
  obtain ⟨e35, l35, rfl, h35⟩ := lcons h34
  obtain ⟨e36, l36, rfl, h36⟩ := lcons h35
  obtain ⟨e37, l37, rfl, h37⟩ := lcons h36
  obtain ⟨e38, l38, rfl, h38⟩ := lcons h37
  obtain ⟨e39, l39, rfl, h39⟩ := lcons h38
  obtain ⟨e40, l40, rfl, h40⟩ := lcons h39
  obtain ⟨e41, l41, rfl, h41⟩ := lcons h40
  obtain ⟨e42, l42, rfl, h42⟩ := lcons h41
  obtain ⟨e43, l43, rfl, h43⟩ := lcons h42
  obtain ⟨e44, l44, rfl, h44⟩ := lcons h43
  obtain ⟨e45, l45, rfl, h45⟩ := lcons h44
  obtain ⟨e46, l46, rfl, h46⟩ := lcons h45
  obtain ⟨e47, l47, rfl, h47⟩ := lcons h46
  obtain ⟨e48, l48, rfl, h48⟩ := lcons h47
  obtain ⟨e49, l49, rfl, h49⟩ := lcons h48
  obtain ⟨e50, l50, rfl, h50⟩ := lcons h49
  obtain ⟨e51, l51, rfl, h51⟩ := lcons h50
  obtain ⟨e52, l52, rfl, h52⟩ := lcons h51
  obtain ⟨e53, l53, rfl, h53⟩ := lcons h52
  obtain ⟨e54, l54, rfl, h54⟩ := lcons h53
  obtain ⟨e55, l55, rfl, h55⟩ := lcons h54
  obtain ⟨e56, l56, rfl, h56⟩ := lcons h55
  obtain ⟨e57, l57, rfl, h57⟩ := lcons h56
  obtain ⟨e58, l58, rfl, h58⟩ := lcons h57
  obtain ⟨e59, l59, rfl, h59⟩ := lcons h58
  obtain ⟨e60, l60, rfl, h60⟩ := lcons h59
  obtain ⟨e61, l61, rfl, h61⟩ := lcons h60
  obtain ⟨e62, l62, rfl, h62⟩ := lcons h61
  obtain ⟨e63, l63, rfl, h63⟩ := lcons h62
  obtain ⟨e64, l64, rfl, h64⟩ := lcons h63
  obtain ⟨e65, l65, rfl, h65⟩ := lcons h64
  obtain ⟨e66, l66, rfl, h66⟩ := lcons h65
  obtain ⟨e67, l67, rfl, h67⟩ := lcons h66
  obtain ⟨e68, l68, rfl, h68⟩ := lcons h67
  obtain ⟨e69, l69, rfl, h69⟩ := lcons h68
  obtain ⟨e70, l70, rfl, h70⟩ := lcons h69
  obtain ⟨e71, l71, rfl, h71⟩ := lcons h70
  obtain ⟨e72, l72, rfl, h72⟩ := lcons h71
  obtain ⟨e73, l73, rfl, h73⟩ := lcons h72
  obtain ⟨e74, l74, rfl, h74⟩ := lcons h73
  obtain ⟨e75, l75, rfl, h75⟩ := lcons h74
  obtain ⟨e76, l76, rfl, h76⟩ := lcons h75
  obtain ⟨e77, l77, rfl, h77⟩ := lcons h76
  obtain ⟨e78, l78, rfl, h78⟩ := lcons h77
  obtain ⟨e79, l79, rfl, h79⟩ := lcons h78
  obtain ⟨e80, l80, rfl, h80⟩ := lcons h79
  obtain ⟨e81, l81, rfl, h81⟩ := lcons h80
  obtain ⟨e82, l82, rfl, h82⟩ := lcons h81
  obtain ⟨e83, l83, rfl, h83⟩ := lcons h82
  obtain ⟨e84, l84, rfl, h84⟩ := lcons h83
  obtain ⟨e85, l85, rfl, h85⟩ := lcons h84
  obtain ⟨e86, l86, rfl, h86⟩ := lcons h85
  obtain ⟨e87, l87, rfl, h87⟩ := lcons h86
  obtain ⟨e88, l88, rfl, h88⟩ := lcons h87
  obtain ⟨e89, l89, rfl, h89⟩ := lcons h88
  obtain ⟨e90, l90, rfl, h90⟩ := lcons h89
  obtain ⟨e91, l91, rfl, h91⟩ := lcons h90
  obtain ⟨e92, l92, rfl, h92⟩ := lcons h91
  obtain ⟨e93, l93, rfl, h93⟩ := lcons h92
  obtain ⟨e94, l94, rfl, h94⟩ := lcons h93
  obtain ⟨e95, l95, rfl, h95⟩ := lcons h94
  obtain ⟨e96, l96, rfl, h96⟩ := lcons h95
  obtain ⟨e97, l97, rfl, h97⟩ := lcons h96
  obtain ⟨e98, l98, rfl, h98⟩ := lcons h97
  obtain ⟨e99, l99, rfl, h99⟩ := lcons h98
  obtain ⟨e100, l100, rfl, h100⟩ := lcons h99
  obtain ⟨e101, l101, rfl, h101⟩ := lcons h100
  obtain ⟨e102, l102, rfl, h102⟩ := lcons h101
  obtain ⟨e103, l103, rfl, h103⟩ := lcons h102
  obtain ⟨e104, l104, rfl, h104⟩ := lcons h103
  obtain ⟨e105, l105, rfl, h105⟩ := lcons h104
  obtain ⟨e106, l106, rfl, h106⟩ := lcons h105
  obtain ⟨e107, l107, rfl, h107⟩ := lcons h106
  obtain ⟨e108, l108, rfl, h108⟩ := lcons h107
  obtain ⟨e109, l109, rfl, h109⟩ := lcons h108
  obtain ⟨e110, l110, rfl, h110⟩ := lcons h109
  obtain ⟨e111, l111, rfl, h111⟩ := lcons h110
  obtain ⟨e112, l112, rfl, h112⟩ := lcons h111
  obtain ⟨e113, l113, rfl, h113⟩ := lcons h112
  obtain ⟨e114, l114, rfl, h114⟩ := lcons h113
  obtain ⟨e115, l115, rfl, h115⟩ := lcons h114
  obtain ⟨e116, l116, rfl, h116⟩ := lcons h115
  obtain ⟨e117, l117, rfl, h117⟩ := lcons h116
  obtain ⟨e118, l118, rfl, h118⟩ := lcons h117
  obtain ⟨e119, l119, rfl, h119⟩ := lcons h118
  obtain rfl := List.length_eq_zero_iff.1 h119
  exact k e0 e1 e2 e3 e4 e5 e6 e7 e8 e9 e10 e11 e12 e13 e14 e15 e16 e17 e18 e19 e20 e21 e22 e23 e24 e25 e26 e27 e28 e29 e30 e31 e32 e33 e34 e35 e36 e37 e38 e39 e40 e41 e42 e43 e44 e45 e46 e47 e48 e49 e50 e51 e52 e53 e54 e55 e56 e57 e58 e59 e60 e61 e62 e63 e64 e65 e66 e67 e68 e69 e70 e71 e72 e73 e74 e75 e76 e77 e78 e79 e80 e81 e82 e83 e84 e85 e86 e87 e88 e89 e90 e91 e92 e93 e94 e95 e96 e97 e98 e99 e100 e101 e102 e103 e104 e105 e106 e107 e108 e109 e110 e111 e112 e113 e114 e115 e116 e117 e118 e119

theorem not_run {a : Act} {w : World} {o : Oper} {x : Operand} {p : Bool} (h : o.op = .unOp .not 4 x) (hx : a.eval x = .bool p) :
    (execOp a.eval o).run Try.prog w = .ok (.value (.bool (!p))) w ∧ (execOp a.eval o).events Try.prog w #[] = #[] := by
  constructor <;> unfold execOp <;> simp only [h, hx] <;> simp [go_sem]
theorem nmCx : (Try.f10.name == "runtime.NumGoroutine") = false := by kernel_rfl
theorem noc_int {f g : List (List Int)} (hok : ok2 f g = true) (h : NoC (rdF f) (rdF g) (rdF f).length) : intL f g = true := by
  unfold intL
  rw [hok, Bool.true_and, Bool.not_eq_true']
  cases hc : ((rowsL (rdF f) (rdF g)).flatten.contains 0) with
  | false => rfl
  | true =>
    exfalso
    have hm := List.contains_iff_mem.1 hc
    obtain ⟨r, hr, hm⟩ := List.mem_flatten.1 hm
    obtain ⟨x, hx, rfl⟩ := List.mem_map.1 hr
    obtain ⟨y, hy, e⟩ := List.mem_map.1 hm
    obtain ⟨i, hi, rfl⟩ := List.getElem_of_mem hx
    obtain ⟨k, hk, rfl⟩ := List.getElem_of_mem hy
    exact h i hi k hk (by rw [show (rdF f).getD i 0 = (rdF f)[i] from by simp [List.getD, hi], show (rdF g).getD k 0 = (rdF g)[k] from by simp [List.getD, hk]]; exact e)
theorem meet_zeroL {f g : List (List Int)} (hf : famB f = true) (hg : famB g = true) {i k : Nat} (hi : i < f.length) (hk : k < g.length) :
    (interL (f.getD i []) (g.getD k [])).length = 0 ↔ (rdF f).getD i 0 &&& (rdF g).getD k 0 = 0 := by
  rw [interL_yes (fam_valid hf _ (getD_mem hi)) (fam_valid hg _ (getD_mem hk)), ← intB_valid (fam_valid hf _ (getD_mem hi)) (fam_valid hg _ (getD_mem hk))]
  exact meet_zero hf hg hi hk
theorem CexR.none {f g : List (List Int)} {p : Bool} {A B : List Int} (h : CexR f g p A B) (hn : NoC (rdF f) (rdF g) (rdF f).length) : p = false := by
  rcases h with ⟨rfl, _⟩ | ⟨_, _, i, k, hi, hk, h0, _⟩
  · rfl
  · exact absurd h0 (hn i hi k hk)
set_option maxRecDepth 20000 in
set_option maxHeartbeats 4000000 in
theorem FnCounterexample_g {a : Option Addr} {n c : Nat} {u : World} (h : Bytes u a n c) : GLaw Try.prog 3 #[.slice a n c] u := by
  have hb := h
  clear h
  refine GLaw.of (cd := bCE) Try.func3 rfl ?_
  have leave : ∀ {X : Nat → Prop} {u1 : World} {a' : Act} {todo : List Item}, a'.defers = [] → a'.tmps.getD 2 undef = .bool true → Gw Try.prog (fun _ => False) u (QEnd Try.prog 3 u) X u1 (G { (base 3).at a' todo with mode := .returning } []) := fun hd h2 =>
    Gw.fin Try.func3 hd (by rw [← h2]; simp [results, Try.f3])
  refine Gw.ctl rfl (fun w => stepG_seq (x := cl (ct 0 bCE)) (y := (ct 1 bCE))) ?_
  refine Gw.seg CC RR (f := 3) (N := fun a' u' => (a'.tmps.size = 120 ∧ a'.defers = [] ∧ a'.tmps.getD 0 undef = .slice a n c ∧ a'.tmps.getD 2 undef = .bool false)) (Rt := fun a' u' => False) rfl (kn_nil rfl) rfl (by kernel_rfl) (fun _ _ _ _ h => h) (fun _ _ _ _ h => h) (fun t d => ?_) (fun A u1 hg h => ?_) fun _ _ _ _ _ h => h.elim
  · generalize World.re u t d = v
    simp only [bCE, cl, cr, ct, co, Try.f3, Option.getD_some, List.size_toArray, List.length_cons, List.length_nil, Nat.reduceAdd, Nat.reduceSub, Array.replicate_succ, Array.replicate_zero, List.push_toArray, List.append_toArray, List.nil_append, List.cons_append]
    go_wp2_with fail
    exact ⟨⟨rfl, rfl, rfl, rfl⟩, Ext.refl _ _⟩
  have hA := h
  clear h
  obtain ⟨T, ds⟩ := A
  obtain ⟨hsz, hds, h_0, h_2⟩ := hA
  obtain rfl : ds = [] := hds
  try clear hds
  replace hsz : T.size = 120 := hsz
  revert h_0 h_2
  revert hsz
  revert T
  refine arr120 ?_
  intro e0 e1 e2 e3 e4 e5 e6 e7 e8 e9 e10 e11 e12 e13 e14 e15 e16 e17 e18 e19 e20 e21 e22 e23 e24 e25 e26 e27 e28 e29 e30 e31 e32 e33 e34 e35 e36 e37 e38 e39 e40 e41 e42 e43 e44 e45 e46 e47 e48 e49 e50 e51 e52 e53 e54 e55 e56 e57 e58 e59 e60 e61 e62 e63 e64 e65 e66 e67 e68 e69 e70 e71 e72 e73 e74 e75 e76 e77 e78 e79 e80 e81 e82 e83 e84 e85 e86 e87 e88 e89 e90 e91 e92 e93 e94 e95 e96 e97 e98 e99 e100 e101 e102 e103 e104 e105 e106 e107 e108 e109 e110 e111 e112 e113 e114 e115 e116 e117 e118 e119 h_0 h_2
  have h_0 : e0 = .slice a n c := h_0
  subst h_0
  have h_2 : e2 = .bool false := h_2
  subst h_2
  replace hb : Bytes u1 a n c := by have := hb.ext hg.ext; exact this
  clear hg
  refine Gw.ctl rfl (fun w => stepG_seq (x := cl (ct 1 bCE)) (y := (ct 2 bCE))) ?_
  refine Gw.seg CC RR (f := 3) (N := fun a' u' => (a'.tmps.size = 120 ∧ a'.defers = [] ∧ a'.tmps.getD 0 undef = .slice a n c ∧ a'.tmps.getD 2 undef = .bool false)) (Rt := fun a' u' => a'.tmps.getD 2 undef = .bool true) rfl (kn_nil rfl) rfl (by kernel_rfl) (fun _ _ _ _ h => h) (fun _ _ _ _ h => h) (fun t d => ?_) (fun A u2 hg h => ?_) (fun A u2 todo hd hg h => ?_)
  · generalize World.re u1 t d = v
    simp only [bCE, cl, cr, ct, co, Try.f3, Option.getD_some]
    rcases Nat.lt_or_ge 1048576 n with hl | hl
    · have hlI : (1048576 : Int) < (n : Int) := by omega
      go_wp2_with fail
      exact ⟨rfl, Ext.refl _ _⟩
    · have hlI : ¬ (1048576 : Int) < (n : Int) := by omega
      go_wp2_with fail
      exact ⟨⟨rfl, rfl, rfl, rfl⟩, Ext.refl _ _⟩
  rotate_left
  · exact leave hd h
  have hA := h
  clear h
  obtain ⟨T, ds⟩ := A
  obtain ⟨hsz, hds, h_0, h_2⟩ := hA
  obtain rfl : ds = [] := hds
  try clear hds
  replace hsz : T.size = 120 := hsz
  revert h_0 h_2
  revert hsz
  revert T
  refine arr120 ?_
  intro e0 e1 e2 e3 e4 e5 e6 e7 e8 e9 e10 e11 e12 e13 e14 e15 e16 e17 e18 e19 e20 e21 e22 e23 e24 e25 e26 e27 e28 e29 e30 e31 e32 e33 e34 e35 e36 e37 e38 e39 e40 e41 e42 e43 e44 e45 e46 e47 e48 e49 e50 e51 e52 e53 e54 e55 e56 e57 e58 e59 e60 e61 e62 e63 e64 e65 e66 e67 e68 e69 e70 e71 e72 e73 e74 e75 e76 e77 e78 e79 e80 e81 e82 e83 e84 e85 e86 e87 e88 e89 e90 e91 e92 e93 e94 e95 e96 e97 e98 e99 e100 e101 e102 e103 e104 e105 e106 e107 e108 e109 e110 e111 e112 e113 e114 e115 e116 e117 e118 e119 h_0 h_2
  have h_0 : e0 = .slice a n c := h_0
  subst h_0
  have h_2 : e2 = .bool false := h_2
  subst h_2
  replace hb : Bytes u2 a n c := by have := hb.ext hg.ext; exact this
  clear hg
  refine Gw.ctl rfl (fun w => stepG_seq (x := cl (ct 2 bCE)) (y := (ct 3 bCE))) ?_
  refine Gw.seg CC RR (f := 3) (N := fun a' u' => ∃ a1 n1 c1 f a2 n2 c2 g, (a'.tmps.size = 120 ∧ a'.defers = [] ∧ a'.tmps.getD 3 undef = .slice a1 n1 c1 ∧ a'.tmps.getD 4 undef = .slice a2 n2 c2) ∧ Fam u' a1 n1 f ∧ Fam u' a2 n2 g) (Rt := fun a' u' => False) rfl (kn_nil rfl) rfl (by kernel_rfl) (fun _ _ _ _ h => h) (fun _ _ _ _ h => h) (fun t d => ?_) (fun A u3 hg h => ?_) fun _ _ _ _ _ h => h.elim
  · have H : Bytes (World.re u2 t d) a n c := hb
    generalize World.re u2 t d = v at H
    simp only [bCE, cl, cr, ct, co, Try.f3, Option.getD_some]
    go_wp2_with fail
    refine (DrawIntersectCounterexample_any H).mono ?_; rintro e w1 ⟨a1, n1, c1, f, a2, n2, c2, g, rfl, hf, hn1, hg, hn2, he⟩
    go_wp2_with fail
    exact ⟨⟨_, _, _, _, _, _, _, _, ⟨rfl, rfl, rfl, rfl⟩, hf.1, hg.1⟩, he⟩
  obtain ⟨a1, n1, c1, f, a2, n2, c2, g, hA, hf, hg2⟩ := h
  obtain ⟨T, ds⟩ := A
  obtain ⟨hsz, hds, h_3, h_4⟩ := hA
  obtain rfl : ds = [] := hds
  try clear hds
  replace hsz : T.size = 120 := hsz
  revert h_3 h_4
  revert hsz
  revert T
  refine arr120 ?_
  intro e0 e1 e2 e3 e4 e5 e6 e7 e8 e9 e10 e11 e12 e13 e14 e15 e16 e17 e18 e19 e20 e21 e22 e23 e24 e25 e26 e27 e28 e29 e30 e31 e32 e33 e34 e35 e36 e37 e38 e39 e40 e41 e42 e43 e44 e45 e46 e47 e48 e49 e50 e51 e52 e53 e54 e55 e56 e57 e58 e59 e60 e61 e62 e63 e64 e65 e66 e67 e68 e69 e70 e71 e72 e73 e74 e75 e76 e77 e78 e79 e80 e81 e82 e83 e84 e85 e86 e87 e88 e89 e90 e91 e92 e93 e94 e95 e96 e97 e98 e99 e100 e101 e102 e103 e104 e105 e106 e107 e108 e109 e110 e111 e112 e113 e114 e115 e116 e117 e118 e119 h_3 h_4
  have h_3 : e3 = .slice a1 n1 c1 := h_3
  subst h_3
  have h_4 : e4 = .slice a2 n2 c2 := h_4
  subst h_4
  clear hb hg
  refine Gw.ctl rfl (fun w => stepG_seq (x := cl (ct 3 bCE)) (y := (ct 4 bCE))) ?_
  refine Gw.seg CC RR (f := 3) (N := fun a' u' => ∃ a5 n5 c5 a6 n6 c6 p S5 S6, (a'.tmps.size = 120 ∧ a'.defers = [] ∧ a'.tmps.getD 3 undef = .slice a1 n1 c1 ∧ a'.tmps.getD 4 undef = .slice a2 n2 c2 ∧ a'.tmps.getD 5 undef = .slice a5 n5 c5 ∧ a'.tmps.getD 6 undef = .slice a6 n6 c6 ∧ a'.tmps.getD 7 undef = .bool p) ∧ Ints u' a5 n5 S5 ∧ Ints u' a6 n6 S6 ∧ CexR f g p S5 S6) (Rt := fun a' u' => False) rfl (kn_nil rfl) rfl (by kernel_rfl) (fun _ _ _ _ h => h) (fun _ _ _ _ h => h) (fun t d => ?_) (fun A u4 hg h => ?_) fun _ _ _ _ _ h => h.elim
  · have H1 : Fam (World.re u3 t d) a1 n1 f := hf
    have H2 : Fam (World.re u3 t d) a2 n2 g := hg2
    generalize World.re u3 t d = v at H1 H2
    simp only [bCE, cl, cr, ct, co, Try.f3, Option.getD_some]
    clear hf hg2
    go_wp2_with fail
    refine (sIntersectCounterexample_any H1 H2).mono ?_; rintro e w1 ⟨a4, n4, c4, a5, n5, c5, p, A, B, rfl, i4, i5, hc, e1⟩
    go_wp2_with fail
    exact ⟨⟨_, _, _, _, _, _, _, _, _, ⟨rfl, rfl, rfl, rfl, rfl, rfl, rfl⟩, i4, i5, hc⟩, e1⟩
  obtain ⟨a5, n5, c5, a6, n6, c6, p, S5, S6, hA, i5, i6, hc⟩ := h
  obtain ⟨T, ds⟩ := A
  obtain ⟨hsz, hds, h_3, h_4, h_5, h_6, h_7⟩ := hA
  obtain rfl : ds = [] := hds
  try clear hds
  replace hsz : T.size = 120 := hsz
  revert h_3 h_4 h_5 h_6 h_7
  revert hsz
  revert T
  refine arr120 ?_
  intro e0 e1 e2 e3 e4 e5 e6 e7 e8 e9 e10 e11 e12 e13 e14 e15 e16 e17 e18 e19 e20 e21 e22 e23 e24 e25 e26 e27 e28 e29 e30 e31 e32 e33 e34 e35 e36 e37 e38 e39 e40 e41 e42 e43 e44 e45 e46 e47 e48 e49 e50 e51 e52 e53 e54 e55 e56 e57 e58 e59 e60 e61 e62 e63 e64 e65 e66 e67 e68 e69 e70 e71 e72 e73 e74 e75 e76 e77 e78 e79 e80 e81 e82 e83 e84 e85 e86 e87 e88 e89 e90 e91 e92 e93 e94 e95 e96 e97 e98 e99 e100 e101 e102 e103 e104 e105 e106 e107 e108 e109 e110 e111 e112 e113 e114 e115 e116 e117 e118 e119 h_3 h_4 h_5 h_6 h_7
  have h_3 : e3 = .slice a1 n1 c1 := h_3
  subst h_3
  have h_4 : e4 = .slice a2 n2 c2 := h_4
  subst h_4
  have h_5 : e5 = .slice a5 n5 c5 := h_5
  subst h_5
  have h_6 : e6 = .slice a6 n6 c6 := h_6
  subst h_6
  have h_7 : e7 = .bool p := h_7
  subst h_7
  replace hf : Fam u4 a1 n1 f := hg.fam hf
  replace hg2 : Fam u4 a2 n2 g := hg.fam hg2
  clear hg
  refine Gw.ctl rfl (fun w => stepG_seq (x := .region 5 rCE5 false) (y := (ct 5 bCE))) ?_
  refine Gw.ctl rfl (fun w => stepG_region) ?_
  rw [show List.range rCE5.size = [0, 1, 2, 3, 4, 5, 6, 7, 8, 9] from rfl]
  refine Gw.mv (oo := rCE5.getD 0 default) rfl (.inl rfl) rfl (bkn _) ?_
  refine Gw.mv (oo := rCE5.getD 1 default) rfl (.inl rfl) rfl (bkn _) ?_
  refine (?_ : ∀ A : Act, (A.tmps.size = 120 ∧ A.defers = [] ∧ A.tmps.getD 3 undef = .slice a1 n1 c1 ∧ A.tmps.getD 4 undef = .slice a2 n2 c2 ∧ A.tmps.getD 5 undef = .slice a5 n5 c5 ∧ A.tmps.getD 6 undef = .slice a6 n6 c6 ∧ A.tmps.getD 7 undef = .bool p ∧ A.tmps.getD 29 undef = .slice a1 n1 c1 ∧ A.tmps.getD 30 undef = .slice a2 n2 c2) → Gw _ _ _ _ _ _ (G ((base 3).at A _) _)) _ ⟨rfl, rfl, rfl, rfl, rfl, rfl, rfl, rfl, rfl⟩
  intro A hA
  obtain ⟨T, ds⟩ := A
  obtain ⟨hsz, hds, h_3, h_4, h_5, h_6, h_7, h_29, h_30⟩ := hA
  obtain rfl : ds = [] := hds
  try clear hds
  replace hsz : T.size = 120 := hsz
  revert h_3 h_4 h_5 h_6 h_7 h_29 h_30
  revert hsz
  revert T
  refine arr120 ?_
  intro e0 e1 e2 e3 e4 e5 e6 e7 e8 e9 e10 e11 e12 e13 e14 e15 e16 e17 e18 e19 e20 e21 e22 e23 e24 e25 e26 e27 e28 e29 e30 e31 e32 e33 e34 e35 e36 e37 e38 e39 e40 e41 e42 e43 e44 e45 e46 e47 e48 e49 e50 e51 e52 e53 e54 e55 e56 e57 e58 e59 e60 e61 e62 e63 e64 e65 e66 e67 e68 e69 e70 e71 e72 e73 e74 e75 e76 e77 e78 e79 e80 e81 e82 e83 e84 e85 e86 e87 e88 e89 e90 e91 e92 e93 e94 e95 e96 e97 e98 e99 e100 e101 e102 e103 e104 e105 e106 e107 e108 e109 e110 e111 e112 e113 e114 e115 e116 e117 e118 e119 h_3 h_4 h_5 h_6 h_7 h_29 h_30
  have h_3 : e3 = .slice a1 n1 c1 := h_3
  subst h_3
  have h_4 : e4 = .slice a2 n2 c2 := h_4
  subst h_4
  have h_5 : e5 = .slice a5 n5 c5 := h_5
  subst h_5
  have h_6 : e6 = .slice a6 n6 c6 := h_6
  subst h_6
  have h_7 : e7 = .bool p := h_7
  subst h_7
  have h_29 : e29 = .slice a1 n1 c1 := h_29
  subst h_29
  have h_30 : e30 = .slice a2 n2 c2 := h_30
  subst h_30
  refine Gw.gcall (oo := rCE5.getD 2 default) (g := 10) (args := #[.tmp 29, .tmp 30]) rfl rfl (bkn _) rfl Try.func10 nmCx rfl (vals := #[.slice a1 n1 c1, .slice a2 n2 c2]) (by simp [Act.eval]) (IntersectCounterexample_g hf hg2) fun X4 v u5 hg ⟨a8, n8, c8, a9, n9, c9, p2, A2, B2, hv, i8, i9, hc2, _⟩ => ?_
  subst hv
  obtain ⟨rfl, rfl, rfl⟩ := hc2.one hc
  clear hc2
  refine (?_ : ∀ A : Act, (A.tmps.size = 120 ∧ A.defers = [] ∧ A.tmps.getD 3 undef = .slice a1 n1 c1 ∧ A.tmps.getD 4 undef = .slice a2 n2 c2 ∧ A.tmps.getD 5 undef = .slice a5 n5 c5 ∧ A.tmps.getD 6 undef = .slice a6 n6 c6 ∧ A.tmps.getD 7 undef = .bool p2 ∧ A.tmps.getD 31 undef = .tuple #[.slice a8 n8 c8, .slice a9 n9 c9, .bool p2]) → Gw _ _ _ _ _ _ (G ((base 3).at A _) _)) _ ⟨rfl, rfl, rfl, rfl, rfl, rfl, rfl, rfl⟩
  intro A hA
  obtain ⟨T, ds⟩ := A
  obtain ⟨hsz, hds, h_3, h_4, h_5, h_6, h_7, h_31⟩ := hA
  obtain rfl : ds = [] := hds
  try clear hds
  replace hsz : T.size = 120 := hsz
  revert h_3 h_4 h_5 h_6 h_7 h_31
  revert hsz
  revert T
  refine arr120 ?_
  intro e0 e1 e2 e3 e4 e5 e6 e7 e8 e9 e10 e11 e12 e13 e14 e15 e16 e17 e18 e19 e20 e21 e22 e23 e24 e25 e26 e27 e28 e29 e30 e31 e32 e33 e34 e35 e36 e37 e38 e39 e40 e41 e42 e43 e44 e45 e46 e47 e48 e49 e50 e51 e52 e53 e54 e55 e56 e57 e58 e59 e60 e61 e62 e63 e64 e65 e66 e67 e68 e69 e70 e71 e72 e73 e74 e75 e76 e77 e78 e79 e80 e81 e82 e83 e84 e85 e86 e87 e88 e89 e90 e91 e92 e93 e94 e95 e96 e97 e98 e99 e100 e101 e102 e103 e104 e105 e106 e107 e108 e109 e110 e111 e112 e113 e114 e115 e116 e117 e118 e119 h_3 h_4 h_5 h_6 h_7 h_31
  have h_3 : e3 = .slice a1 n1 c1 := h_3
  subst h_3
  have h_4 : e4 = .slice a2 n2 c2 := h_4
  subst h_4
  have h_5 : e5 = .slice a5 n5 c5 := h_5
  subst h_5
  have h_6 : e6 = .slice a6 n6 c6 := h_6
  subst h_6
  have h_7 : e7 = .bool p2 := h_7
  subst h_7
  have h_31 : e31 = .tuple #[.slice a8 n8 c8, .slice a9 n9 c9, .bool p2] := h_31
  subst h_31
  replace hf : Fam u5 a1 n1 f := hg.fam hf
  replace hg2 : Fam u5 a2 n2 g := hg.fam hg2
  replace i5 : Ints u5 a5 n5 A2 := hg.ints i5
  replace i6 : Ints u5 a6 n6 B2 := hg.ints i6
  clear hg
  refine Gw.oprest CC RR (f := 3) (N := fun a' u' => (a'.tmps.size = 120 ∧ a'.defers = [] ∧ a'.tmps.getD 3 undef = .slice a1 n1 c1 ∧ a'.tmps.getD 4 undef = .slice a2 n2 c2 ∧ a'.tmps.getD 5 undef = .slice a5 n5 c5 ∧ a'.tmps.getD 6 undef = .slice a6 n6 c6 ∧ a'.tmps.getD 7 undef = .bool p2 ∧ a'.tmps.getD 8 undef = .slice a8 n8 c8 ∧ a'.tmps.getD 9 undef = .slice a9 n9 c9 ∧ a'.tmps.getD 10 undef = .bool p2)) rfl (kn_nil rfl) rfl (by kernel_rfl) (fun _ _ _ _ h => h) (fun t d => ?_) (fun A u6 hg hA => ?_)
  · generalize World.re u5 t d = v
    refine wpOps_rest 3 rfl ?_
    simp only [rCE5, bCE, cl, cr, ct, co, Try.f3, Option.getD_some, List.drop_succ_cons, List.drop_zero]
    go_wp2_with fail
    exact ⟨⟨rfl, rfl, rfl, rfl, rfl, rfl, rfl, rfl, rfl, rfl⟩, Ext.refl _ _⟩
  obtain ⟨T, ds⟩ := A
  obtain ⟨hsz, hds, h_3, h_4, h_5, h_6, h_7, h_8, h_9, h_10⟩ := hA
  obtain rfl : ds = [] := hds
  try clear hds
  replace hsz : T.size = 120 := hsz
  revert h_3 h_4 h_5 h_6 h_7 h_8 h_9 h_10
  revert hsz
  revert T
  refine arr120 ?_
  intro e0 e1 e2 e3 e4 e5 e6 e7 e8 e9 e10 e11 e12 e13 e14 e15 e16 e17 e18 e19 e20 e21 e22 e23 e24 e25 e26 e27 e28 e29 e30 e31 e32 e33 e34 e35 e36 e37 e38 e39 e40 e41 e42 e43 e44 e45 e46 e47 e48 e49 e50 e51 e52 e53 e54 e55 e56 e57 e58 e59 e60 e61 e62 e63 e64 e65 e66 e67 e68 e69 e70 e71 e72 e73 e74 e75 e76 e77 e78 e79 e80 e81 e82 e83 e84 e85 e86 e87 e88 e89 e90 e91 e92 e93 e94 e95 e96 e97 e98 e99 e100 e101 e102 e103 e104 e105 e106 e107 e108 e109 e110 e111 e112 e113 e114 e115 e116 e117 e118 e119 h_3 h_4 h_5 h_6 h_7 h_8 h_9 h_10
  have h_3 : e3 = .slice a1 n1 c1 := h_3
  subst h_3
  have h_4 : e4 = .slice a2 n2 c2 := h_4
  subst h_4
  have h_5 : e5 = .slice a5 n5 c5 := h_5
  subst h_5
  have h_6 : e6 = .slice a6 n6 c6 := h_6
  subst h_6
  have h_7 : e7 = .bool p2 := h_7
  subst h_7
  have h_8 : e8 = .slice a8 n8 c8 := h_8
  subst h_8
  have h_9 : e9 = .slice a9 n9 c9 := h_9
  subst h_9
  have h_10 : e10 = .bool p2 := h_10
  subst h_10
  replace hf : Fam u6 a1 n1 f := hg.fam hf
  replace hg2 : Fam u6 a2 n2 g := hg.fam hg2
  replace i8 : Ints u6 a8 n8 A2 := hg.ints i8
  replace i9 : Ints u6 a9 n9 B2 := hg.ints i9
  replace i5 : Ints u6 a5 n5 A2 := hg.ints i5
  replace i6 : Ints u6 a6 n6 B2 := hg.ints i6
  clear hg
  refine Gw.ctl rfl (fun w => stepG_seq (x := cl (ct 5 bCE)) (y := (ct 6 bCE))) ?_
  refine Gw.seg CC RR (f := 3) (N := fun a' u' => (a'.tmps.size = 120 ∧ a'.defers = [] ∧ a'.tmps.getD 3 undef = .slice a1 n1 c1 ∧ a'.tmps.getD 4 undef = .slice a2 n2 c2 ∧ a'.tmps.getD 8 undef = .slice a8 n8 c8 ∧ a'.tmps.getD 9 undef = .slice a9 n9 c9 ∧ a'.tmps.getD 10 undef = .bool p2) ∧ famB f = true ∧ famB g = true) (Rt := fun a' u' => a'.tmps.getD 2 undef = .bool true) rfl (kn_nil rfl) rfl (by kernel_rfl) (fun _ _ _ _ h => h) (fun _ _ _ _ h => h) (fun t d => ?_) (fun A u7 hg h => ?_) (fun A u7 todo hd hg h => ?_)
  · have K1 : Fam (World.re u6 t d) a1 n1 f := hf
    have K2 : Fam (World.re u6 t d) a2 n2 g := hg2
    have K5 : Ints (World.re u6 t d) a5 n5 A2 := i5
    have K6 : Ints (World.re u6 t d) a6 n6 B2 := i6
    have K8 : Ints (World.re u6 t d) a8 n8 A2 := i8
    have K9 : Ints (World.re u6 t d) a9 n9 B2 := i9
    generalize World.re u6 t d = v at K1 K2 K5 K6 K8 K9
    simp only [bCE, cl, cr, ct, co, Try.f3, Option.getD_some]
    have H1 := Lib.hid K1
    have H2 := Lib.hid K2
    have H5 := Lib.hid K5
    have H6 := Lib.hid K6
    have H8 := Lib.hid K8
    have H9 := Lib.hid K9
    clear K1 K2 K5 K6 K8 K9 hf hg2 i5 i6 i8 i9 hc
    cases hv : famB f
    · go_wp2_with fail
      refine (sameInts_is H8.out H5.out (same_refl A2)).mono ?_; rintro e w1 ⟨rfl, d1⟩
      have E1 := Lib.hid (show Ext none v w1 from d1.ext)
      clear d1
      go_wp2_with fail
      refine (sameInts_is (H9.out.ext E1.out) (H6.out.ext E1.out) (same_refl B2)).mono ?_; rintro e w2 ⟨rfl, d2⟩
      have E2 := Lib.hid (E1.out.trans d2.ext)
      clear d2
      go_wp2_with fail
      refine (sFamilyValid_is (H1.out.ext E2.out) hv).mono ?_; rintro e w3 ⟨rfl, d3⟩
      have E3 := Lib.hid (E2.out.trans d3.ext)
      clear d3
      go_wp2_with fail
      refine (sameInts_is (H8.out.ext E3.out) (H5.out.ext E3.out) (same_refl A2)).mono ?_; rintro e w8 ⟨rfl, d8⟩
      have E8 := Lib.hid (E3.out.trans d8.ext)
      clear d8
      go_wp2_with fail
      refine (sameInts_is (H9.out.ext E8.out) (H6.out.ext E8.out) (same_refl B2)).mono ?_; rintro e w9 ⟨rfl, d9⟩
      have E9 := Lib.hid (E8.out.trans d9.ext)
      clear d9
      go_wp2_with fail
      exact ⟨rfl, E9.out⟩
    · cases hv2 : famB g
      · go_wp2_with fail
        refine (sameInts_is H8.out H5.out (same_refl A2)).mono ?_; rintro e w1 ⟨rfl, d1⟩
        have E1 := Lib.hid (show Ext none v w1 from d1.ext)
        clear d1
        go_wp2_with fail
        refine (sameInts_is (H9.out.ext E1.out) (H6.out.ext E1.out) (same_refl B2)).mono ?_; rintro e w2 ⟨rfl, d2⟩
        have E2 := Lib.hid (E1.out.trans d2.ext)
        clear d2
        go_wp2_with fail
        refine (sFamilyValid_is (H1.out.ext E2.out) hv).mono ?_; rintro e w3 ⟨rfl, d3⟩
        have E3 := Lib.hid (E2.out.trans d3.ext)
        clear d3
        go_wp2_with fail
        refine (sFamilyValid_is (H2.out.ext E3.out) hv2).mono ?_; rintro e w4 ⟨rfl, d4⟩
        have E4 := Lib.hid (E3.out.trans d4.ext)
        clear d4
        go_wp2_with fail
        refine (sameInts_is (H8.out.ext E4.out) (H5.out.ext E4.out) (same_refl A2)).mono ?_; rintro e w8 ⟨rfl, d8⟩
        have E8 := Lib.hid (E4.out.trans d8.ext)
        clear d8
        go_wp2_with fail
        refine (sameInts_is (H9.out.ext E8.out) (H6.out.ext E8.out) (same_refl B2)).mono ?_; rintro e w9 ⟨rfl, d9⟩
        have E9 := Lib.hid (E8.out.trans d9.ext)
        clear d9
        go_wp2_with fail
        exact ⟨rfl, E9.out⟩
      · have HV := Lib.hid hv
        have HV2 := Lib.hid hv2
        go_wp2_with fail
        refine (sameInts_is H8.out H5.out (same_refl A2)).mono ?_; rintro e w1 ⟨rfl, d1⟩
        have E1 := Lib.hid (show Ext none v w1 from d1.ext)
        clear d1
        go_wp2_with fail
        refine (sameInts_is (H9.out.ext E1.out) (H6.out.ext E1.out) (same_refl B2)).mono ?_; rintro e w2 ⟨rfl, d2⟩
        have E2 := Lib.hid (E1.out.trans d2.ext)
        clear d2
        go_wp2_with fail
        refine (sFamilyValid_is (H1.out.ext E2.out) hv).mono ?_; rintro e w3 ⟨rfl, d3⟩
        have E3 := Lib.hid (E2.out.trans d3.ext)
        clear d3
        go_wp2_with fail
        refine (sFamilyValid_is (H2.out.ext E3.out) hv2).mono ?_; rintro e w4 ⟨rfl, d4⟩
        have E4 := Lib.hid (E3.out.trans d4.ext)
        clear d4
        go_wp2_with fail
        first
          | exact ⟨⟨⟨rfl, rfl, rfl, rfl, rfl, rfl, rfl⟩, HV.out, HV2.out⟩, E4.out⟩
          | exact ⟨⟨rfl, rfl, rfl, rfl, rfl, rfl, rfl⟩, E4.out⟩
  rotate_left
  · exact leave hd h
  obtain ⟨hA, hv1, hv2⟩ := h
  obtain ⟨T, ds⟩ := A
  obtain ⟨hsz, hds, h_3, h_4, h_8, h_9, h_10⟩ := hA
  obtain rfl : ds = [] := hds
  try clear hds
  replace hsz : T.size = 120 := hsz
  revert h_3 h_4 h_8 h_9 h_10
  revert hsz
  revert T
  refine arr120 ?_
  intro e0 e1 e2 e3 e4 e5 e6 e7 e8 e9 e10 e11 e12 e13 e14 e15 e16 e17 e18 e19 e20 e21 e22 e23 e24 e25 e26 e27 e28 e29 e30 e31 e32 e33 e34 e35 e36 e37 e38 e39 e40 e41 e42 e43 e44 e45 e46 e47 e48 e49 e50 e51 e52 e53 e54 e55 e56 e57 e58 e59 e60 e61 e62 e63 e64 e65 e66 e67 e68 e69 e70 e71 e72 e73 e74 e75 e76 e77 e78 e79 e80 e81 e82 e83 e84 e85 e86 e87 e88 e89 e90 e91 e92 e93 e94 e95 e96 e97 e98 e99 e100 e101 e102 e103 e104 e105 e106 e107 e108 e109 e110 e111 e112 e113 e114 e115 e116 e117 e118 e119 h_3 h_4 h_8 h_9 h_10
  have h_3 : e3 = .slice a1 n1 c1 := h_3
  subst h_3
  have h_4 : e4 = .slice a2 n2 c2 := h_4
  subst h_4
  have h_8 : e8 = .slice a8 n8 c8 := h_8
  subst h_8
  have h_9 : e9 = .slice a9 n9 c9 := h_9
  subst h_9
  have h_10 : e10 = .bool p2 := h_10
  subst h_10
  clear i5 i6
  replace hf : Fam u7 a1 n1 f := hg.fam hf
  replace hg2 : Fam u7 a2 n2 g := hg.fam hg2
  replace i8 : Ints u7 a8 n8 A2 := hg.ints i8
  replace i9 : Ints u7 a9 n9 B2 := hg.ints i9
  clear hg
  refine Gw.ctl rfl (fun w => stepG_seq (x := cl (ct 6 bCE)) (y := (ct 7 bCE))) ?_
  refine Gw.seg CC RR (f := 3) (N := fun a' u' => (a'.tmps.size = 120 ∧ a'.defers = [] ∧ a'.tmps.getD 3 undef = .slice a1 n1 c1 ∧ a'.tmps.getD 4 undef = .slice a2 n2 c2 ∧ a'.tmps.getD 10 undef = .bool p2) ∧ NoC (rdF f) (rdF g) (rdF f).length) (Rt := fun a' u' => a'.tmps.getD 2 undef = .bool true) rfl (kn_nil rfl) rfl (by kernel_rfl) (fun _ _ _ _ h => h) (fun _ _ _ _ h => h) (fun t d => ?_) (fun A u8 hg h => ?_) (fun A u8 todo hd hg h => ?_)
  · have K1 : Fam (World.re u7 t d) a1 n1 f := hf
    have K2 : Fam (World.re u7 t d) a2 n2 g := hg2
    have K8 : Ints (World.re u7 t d) a8 n8 A2 := i8
    have K9 : Ints (World.re u7 t d) a9 n9 B2 := i9
    generalize World.re u7 t d = v at K1 K2 K8 K9
    simp only [bCE, cl, cr, ct, co, Try.f3, Option.getD_some]
    have hl := Lib.hid hf.len
    have hl' := Lib.hid hg2.len
    have hm := hf.max
    have hm' := hg2.max
    have HC := Lib.hid hc
    have HV := Lib.hid hv1
    have HV2 := Lib.hid hv2
    have HW := Lib.hid K1
    have HW' := Lib.hid K2
    have H8 := Lib.hid K8
    have H9 := Lib.hid K9
    clear K1 K2 K8 K9 hf hg2 i8 i9 hc hv1 hv2
    go_wp2_with fail
    go_loopw [11] (fun i wr => ∃ k : Nat, k ≤ n1 ∧ i = .int .i64 (k : Nat) ∧ NoC (rdF f) (rdF g) k ∧ Ext none v wr) (fun i _ => n1 - (intOf i).toNat)
    case atStart => exact ⟨0, by omega, rfl, fun j hj => absurd hj (by omega), Ext.refl _ _⟩
    case round =>
      obtain ⟨k, hk, rfl, hno, he⟩ := hrel
      have HNO := Lib.hid hno
      clear hno
      by_cases hlt : k < n1
      · have hltI : (k : Int) < (n1 : Int) := by omega
        have hkl : k < f.length := by rw [hl.out]; exact hlt
        go_wp2_with fail
        obtain ⟨wo, rfl⟩ : ∃ wo : World, wo = wr := ⟨_, rfl⟩
        go_loopw [12] (fun i wr => ∃ j : Nat, j ≤ n2 ∧ i = .int .i64 (j : Nat) ∧ (∀ j', j' < j → (rdF f).getD k 0 &&& (rdF g).getD j' 0 ≠ 0) ∧ Ext none v wr) (fun i _ => n2 - (intOf i).toNat)
        case atStart => exact ⟨0, by omega, rfl, fun j hj => absurd hj (by omega), he⟩
        case round =>
          obtain ⟨j, hj, rfl, hnj, he3⟩ := hrel
          have HNJ := Lib.hid hnj
          clear hnj
          by_cases hjt : j < n2
          · have hjtI : (j : Int) < (n2 : Int) := by omega
            have hjl : j < g.length := by rw [hl'.out]; exact hjt
            have HMZ := Lib.hid (meet_zeroL HV.out HV2.out hkl hjl)
            obtain ⟨b1, off1, a4, n4, c4, rfl, hc4, hi4⟩ := (HW.out.ext he3).cell hlt
            obtain ⟨b5, off5, a5, n5, c5, rfl, hc5, hi5⟩ := (HW'.out.ext he3).cell hjt
            have HI4 := Lib.hid hi4
            have HI5 := Lib.hid hi5
            have HDR := Lib.hid (show Ext none wr wr.drew from (Ext.refl _ _).drew)
            have HE3 := Lib.hid he3
            clear hi4 hi5 he3
            go_wp2_with fail
            go_region_law (go_simp; go_at_call 13; refine (SetIntersect_any (HI4.out.ext HDR.out) (HI5.out.ext HDR.out)).mono ?_; rintro e w6 ⟨a6, n6, c6, rfl, o6, e6⟩; have HE6 := Lib.hid (HDR.out.trans e6); have HN6 := Lib.hid o6.len; clear o6 e6)
            all_goals
              have hc46 := HE6.out.cell hc4
              have hc56 := HE6.out.cell hc5
              have HE36 := Lib.hid (HE3.out.trans HE6.out)
              by_cases hz : n6 = 0
              · subst hz
                obtain ⟨hp2, hA, hB⟩ := HC.out.one (cex_hit HV.out HV2.out hkl hjl HNO.out HNJ.out (HMZ.out.1 HN6.out))
                subst hp2
                have HQ1 := Lib.hid (show same A2 (f.getD k []) = true from by rw [hA]; exact same_refl _)
                have HQ2 := Lib.hid (show same B2 (g.getD j []) = true from by rw [hB]; exact same_refl _)
                clear hA hB
                go_wp2_with fail
                refine (sameInts_is (H8.out.ext HE36.out) (HI4.out.ext HE6.out) HQ1.out).mono ?_; rintro e w7 ⟨rfl, d7⟩
                have hc57 := d7.ext.cell hc56
                have HE7 := Lib.hid (show Ext none w6 w7 from d7.ext)
                clear d7
                go_wp2_with fail
                refine (sameInts_is ((H9.out.ext HE36.out).ext HE7.out) ((HI5.out.ext HE6.out).ext HE7.out) HQ2.out).mono ?_; rintro e w8 ⟨rfl, d8⟩
                have HE8 := Lib.hid (show Ext none w7 w8 from d8.ext)
                clear d8
                go_wp2_with fail
                exact ⟨rfl, HE36.out.trans (HE7.out.trans HE8.out)⟩
              · have hz1 : ((n6 : Int) == 0) = false := by rw [beq_eq_false_iff_ne]; omega
                have HZ := Lib.hid (show ∀ j', j' < j + 1 → (rdF f).getD k 0 &&& (rdF g).getD j' 0 ≠ 0 from fun j' hj' => by
                  rcases Nat.lt_or_ge j' j with h1 | h1
                  · exact HNJ.out j' h1
                  · obtain rfl : j' = j := by omega
                    exact fun e => hz (HN6.out.symm.trans (HMZ.out.2 e)))
                go_wp2_with fail
                go_roundw
                case rel => exact ⟨j + 1, by omega, by go_num, HZ.out, HE36.out⟩
                case measure => simp [intOf]; omega
          · obtain rfl : j = n2 := by omega
            have hnx := Lib.hid (show NoC (rdF f) (rdF g) (k + 1) from fun i hi q hq => by
              rcases Nat.lt_or_ge i k with h1 | h1
              · exact HNO.out i h1 q hq
              · obtain rfl : i = k := by omega
                exact HNJ.out q (by rw [rdF_l HV2.out, hl'.out] at hq; exact hq))
            go_wp2_with fail
            go_roundw
            case rel => exact ⟨k + 1, by omega, by go_num, hnx.out, he3⟩
            case measure => simp [intOf]; omega
      · obtain rfl : k = n1 := by omega
        go_wp2_with fail
        exact ⟨⟨⟨rfl, rfl, rfl, rfl, rfl⟩, by rw [rdF_l HV.out, hl.out]; exact HNO.out⟩, he⟩
  rotate_left
  · exact leave hd h
  obtain ⟨hA, hno⟩ := h
  obtain ⟨T, ds⟩ := A
  obtain ⟨hsz, hds, h_3, h_4, h_10⟩ := hA
  obtain rfl : ds = [] := hds
  try clear hds
  replace hsz : T.size = 120 := hsz
  revert h_3 h_4 h_10
  revert hsz
  revert T
  refine arr120 ?_
  intro e0 e1 e2 e3 e4 e5 e6 e7 e8 e9 e10 e11 e12 e13 e14 e15 e16 e17 e18 e19 e20 e21 e22 e23 e24 e25 e26 e27 e28 e29 e30 e31 e32 e33 e34 e35 e36 e37 e38 e39 e40 e41 e42 e43 e44 e45 e46 e47 e48 e49 e50 e51 e52 e53 e54 e55 e56 e57 e58 e59 e60 e61 e62 e63 e64 e65 e66 e67 e68 e69 e70 e71 e72 e73 e74 e75 e76 e77 e78 e79 e80 e81 e82 e83 e84 e85 e86 e87 e88 e89 e90 e91 e92 e93 e94 e95 e96 e97 e98 e99 e100 e101 e102 e103 e104 e105 e106 e107 e108 e109 e110 e111 e112 e113 e114 e115 e116 e117 e118 e119 h_3 h_4 h_10
  have h_3 : e3 = .slice a1 n1 c1 := h_3
  subst h_3
  have h_4 : e4 = .slice a2 n2 c2 := h_4
  subst h_4
  have h_10 : e10 = .bool p2 := h_10
  subst h_10
  replace hf : Fam u8 a1 n1 f := hg.fam hf
  replace hg2 : Fam u8 a2 n2 g := hg.fam hg2
  clear hg i8 i9
  obtain rfl : p2 = false := hc.none hno
  refine Gw.ctl rfl (fun w => stepG_seq (x := .region 16 rCE16 false) (y := .ret)) ?_
  refine Gw.ctl rfl (fun w => stepG_region) ?_
  rw [show List.range rCE16.size = [0, 1, 2, 3, 4, 5, 6, 7] from rfl]
  refine Gw.mv (oo := rCE16.getD 0 default) rfl (.inl rfl) rfl (bkn _) ?_
  refine (?_ : ∀ A : Act, (A.tmps.size = 120 ∧ A.defers = [] ∧ A.tmps.getD 3 undef = .slice a1 n1 c1 ∧ A.tmps.getD 4 undef = .slice a2 n2 c2 ∧ A.tmps.getD 113 undef = .bool false) → Gw _ _ _ _ _ _ (G ((base 3).at A _) _)) _ ⟨rfl, rfl, rfl, rfl, rfl⟩
  intro A hA
  obtain ⟨T, ds⟩ := A
  obtain ⟨hsz, hds, h_3, h_4, h_113⟩ := hA
  obtain rfl : ds = [] := hds
  try clear hds
  replace hsz : T.size = 120 := hsz
  revert h_3 h_4 h_113
  revert hsz
  revert T
  refine arr120 ?_
  intro e0 e1 e2 e3 e4 e5 e6 e7 e8 e9 e10 e11 e12 e13 e14 e15 e16 e17 e18 e19 e20 e21 e22 e23 e24 e25 e26 e27 e28 e29 e30 e31 e32 e33 e34 e35 e36 e37 e38 e39 e40 e41 e42 e43 e44 e45 e46 e47 e48 e49 e50 e51 e52 e53 e54 e55 e56 e57 e58 e59 e60 e61 e62 e63 e64 e65 e66 e67 e68 e69 e70 e71 e72 e73 e74 e75 e76 e77 e78 e79 e80 e81 e82 e83 e84 e85 e86 e87 e88 e89 e90 e91 e92 e93 e94 e95 e96 e97 e98 e99 e100 e101 e102 e103 e104 e105 e106 e107 e108 e109 e110 e111 e112 e113 e114 e115 e116 e117 e118 e119 h_3 h_4 h_113
  have h_3 : e3 = .slice a1 n1 c1 := h_3
  subst h_3
  have h_4 : e4 = .slice a2 n2 c2 := h_4
  subst h_4
  have h_113 : e113 = .bool false := h_113
  subst h_113
  refine Gw.val (oo := rCE16.getD 1 default) rfl rfl (bkn _) (fun w => not_run (p := false) rfl rfl) ?_
  refine Gw.mv (oo := rCE16.getD 2 default) rfl (.inl rfl) rfl (bkn _) ?_
  refine (?_ : ∀ A : Act, (A.tmps.size = 120 ∧ A.defers = [] ∧ A.tmps.getD 3 undef = .slice a1 n1 c1 ∧ A.tmps.getD 4 undef = .slice a2 n2 c2 ∧ A.tmps.getD 115 undef = .bool true) → Gw _ _ _ _ _ _ (G ((base 3).at A _) _)) _ ⟨rfl, rfl, rfl, rfl, rfl⟩
  intro A hA
  obtain ⟨T, ds⟩ := A
  obtain ⟨hsz, hds, h_3, h_4, h_115⟩ := hA
  obtain rfl : ds = [] := hds
  try clear hds
  replace hsz : T.size = 120 := hsz
  revert h_3 h_4 h_115
  revert hsz
  revert T
  refine arr120 ?_
  intro e0 e1 e2 e3 e4 e5 e6 e7 e8 e9 e10 e11 e12 e13 e14 e15 e16 e17 e18 e19 e20 e21 e22 e23 e24 e25 e26 e27 e28 e29 e30 e31 e32 e33 e34 e35 e36 e37 e38 e39 e40 e41 e42 e43 e44 e45 e46 e47 e48 e49 e50 e51 e52 e53 e54 e55 e56 e57 e58 e59 e60 e61 e62 e63 e64 e65 e66 e67 e68 e69 e70 e71 e72 e73 e74 e75 e76 e77 e78 e79 e80 e81 e82 e83 e84 e85 e86 e87 e88 e89 e90 e91 e92 e93 e94 e95 e96 e97 e98 e99 e100 e101 e102 e103 e104 e105 e106 e107 e108 e109 e110 e111 e112 e113 e114 e115 e116 e117 e118 e119 h_3 h_4 h_115
  have h_3 : e3 = .slice a1 n1 c1 := h_3
  subst h_3
  have h_4 : e4 = .slice a2 n2 c2 := h_4
  subst h_4
  have h_115 : e115 = .bool true := h_115
  subst h_115
  refine Gw.mv (oo := rCE16.getD 3 default) rfl (.inl rfl) rfl (bkn _) ?_
  refine Gw.mv (oo := rCE16.getD 4 default) rfl (.inl rfl) rfl (bkn _) ?_
  refine (?_ : ∀ A : Act, (A.tmps.size = 120 ∧ A.defers = [] ∧ A.tmps.getD 3 undef = .slice a1 n1 c1 ∧ A.tmps.getD 4 undef = .slice a2 n2 c2 ∧ A.tmps.getD 115 undef = .bool true ∧ A.tmps.getD 116 undef = .slice a1 n1 c1 ∧ A.tmps.getD 117 undef = .slice a2 n2 c2) → Gw _ _ _ _ _ _ (G ((base 3).at A _) _)) _ ⟨rfl, rfl, rfl, rfl, rfl, rfl, rfl⟩
  intro A hA
  obtain ⟨T, ds⟩ := A
  obtain ⟨hsz, hds, h_3, h_4, h_115, h_116, h_117⟩ := hA
  obtain rfl : ds = [] := hds
  try clear hds
  replace hsz : T.size = 120 := hsz
  revert h_3 h_4 h_115 h_116 h_117
  revert hsz
  revert T
  refine arr120 ?_
  intro e0 e1 e2 e3 e4 e5 e6 e7 e8 e9 e10 e11 e12 e13 e14 e15 e16 e17 e18 e19 e20 e21 e22 e23 e24 e25 e26 e27 e28 e29 e30 e31 e32 e33 e34 e35 e36 e37 e38 e39 e40 e41 e42 e43 e44 e45 e46 e47 e48 e49 e50 e51 e52 e53 e54 e55 e56 e57 e58 e59 e60 e61 e62 e63 e64 e65 e66 e67 e68 e69 e70 e71 e72 e73 e74 e75 e76 e77 e78 e79 e80 e81 e82 e83 e84 e85 e86 e87 e88 e89 e90 e91 e92 e93 e94 e95 e96 e97 e98 e99 e100 e101 e102 e103 e104 e105 e106 e107 e108 e109 e110 e111 e112 e113 e114 e115 e116 e117 e118 e119 h_3 h_4 h_115 h_116 h_117
  have h_3 : e3 = .slice a1 n1 c1 := h_3
  subst h_3
  have h_4 : e4 = .slice a2 n2 c2 := h_4
  subst h_4
  have h_115 : e115 = .bool true := h_115
  subst h_115
  have h_116 : e116 = .slice a1 n1 c1 := h_116
  subst h_116
  have h_117 : e117 = .slice a2 n2 c2 := h_117
  subst h_117
  refine Gw.gcall (oo := rCE16.getD 5 default) (g := 14) (args := #[.tmp 116, .tmp 117]) rfl rfl (bkn _) rfl Try.func14 nmInt rfl (vals := #[.slice a1 n1 c1, .slice a2 n2 c2]) (by simp [Act.eval]) (Intersects_g hf hg2) fun X5 v u9 hg v_ => ?_
  rw [noc_int (ok2_both hv1 hv2) hno] at v_
  subst v_
  refine Gw.val (oo := rCE16.getD 6 default) rfl rfl (bkn _) (fun w => pick_run (t := true) rfl rfl) ?_
  refine Gw.mv (oo := rCE16.getD 7 default) rfl (.inr rfl) rfl (bkn _) ?_
  refine Gw.ctl rfl (fun w => stepG_region_end) ?_
  refine (?_ : ∀ A : Act, (A.tmps.size = 120 ∧ A.defers = [] ∧ A.tmps.getD 2 undef = .bool true) → Gw _ _ _ _ _ _ (G ((base 3).at A _) _)) _ ⟨rfl, rfl, rfl⟩
  intro A hA
  refine Gw.ctl rfl (fun w => stepG_ret') ?_
  exact leave hA.2.1 hA.2.2
end Go.Proofs.Ytnifgfnhcjhodaa
