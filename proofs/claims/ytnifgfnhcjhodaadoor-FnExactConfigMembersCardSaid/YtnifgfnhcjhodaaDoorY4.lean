/- errors.Is over two sentinels and nil, and impl.complete, beside leavers. Condition: the sentinels lie in memory (Errs). -/
import Derived.Test.YtnifgfnhcjhodaaDoorY3
import Derived.Test.YtnifgfnhcjhodaaDoorP1
set_option linter.unusedVariables false
set_option linter.unusedSimpArgs false
namespace Go.Proofs.YtnifgfnhcjhodaaDoor
open Go.Conc Go.RowKit

def cth : Code → Code | .cond _ a _ => a | c => c
def cel : Code → Code | .cond _ _ b => b | c => c
set_option maxRecDepth 10000 in
theorem arr54 {motive : Array Value → Prop} (k : ∀ e0 e1 e2 e3 e4 e5 e6 e7 e8 e9 e10 e11 e12 e13 e14 e15 e16 e17 e18 e19 e20 e21 e22 e23 e24 e25 e26 e27 e28 e29 e30 e31 e32 e33 e34 e35 e36 e37 e38 e39 e40 e41 e42 e43 e44 e45 e46 e47 e48 e49 e50 e51 e52 e53 : Value, motive #[e0, e1, e2, e3, e4, e5, e6, e7, e8, e9, e10, e11, e12, e13, e14, e15, e16, e17, e18, e19, e20, e21, e22, e23, e24, e25, e26, e27, e28, e29, e30, e31, e32, e33, e34, e35, e36, e37, e38, e39, e40, e41, e42, e43, e44, e45, e46, e47, e48, e49, e50, e51, e52, e53]) : ∀ T : Array Value, T.size = 54 → motive T := by
  intro T h
  obtain ⟨l⟩ := T
  have h : l.length = 54 := h
  obtain ⟨e0, l0, rfl, h0⟩ := lcons h
  obtain ⟨e1, l1, rfl, h1⟩ := lcons h0
  obtain ⟨e2, l2, rfl, h2⟩ := lcons h1
  obtain ⟨e3, l3, rfl, h3⟩ := lcons h2
  obtain ⟨e4, l4, rfl, h4⟩ := lcons h3
  obtain ⟨e5, l5, rfl, h5⟩ := lcons h4
  obtain ⟨e6, l6, rfl, h6⟩ := lcons h5
  obtain ⟨e7, l7, rfl, h7⟩ := lcons h6
  obtain ⟨e8, l8, rfl, h8⟩ := lcons h7
  obtain ⟨e9, l9, rfl, h9⟩ := lcons h8
  obtain ⟨e10, l10, rfl, h10⟩ := lcons h9
  obtain ⟨e11, l11, rfl, h11⟩ := lcons h10
  obtain ⟨e12, l12, rfl, h12⟩ := lcons h11
  obtain ⟨e13, l13, rfl, h13⟩ := lcons h12
  obtain ⟨e14, l14, rfl, h14⟩ := lcons h13
  obtain ⟨e15, l15, rfl, h15⟩ := lcons h14
  obtain ⟨e16, l16, rfl, h16⟩ := lcons h15
  obtain ⟨e17, l17, rfl, h17⟩ := lcons h16
  obtain ⟨e18, l18, rfl, h18⟩ := lcons h17
  obtain ⟨e19, l19, rfl, h19⟩ := lcons h18
  obtain ⟨e20, l20, rfl, h20⟩ := lcons h19
  obtain ⟨e21, l21, rfl, h21⟩ := lcons h20
  obtain ⟨e22, l22, rfl, h22⟩ := lcons h21
  obtain ⟨e23, l23, rfl, h23⟩ := lcons h22
  obtain ⟨e24, l24, rfl, h24⟩ := lcons h23
  obtain ⟨e25, l25, rfl, h25⟩ := lcons h24
  obtain ⟨e26, l26, rfl, h26⟩ := lcons h25
  obtain ⟨e27, l27, rfl, h27⟩ := lcons h26
  obtain ⟨e28, l28, rfl, h28⟩ := lcons h27
  obtain ⟨e29, l29, rfl, h29⟩ := lcons h28
  obtain ⟨e30, l30, rfl, h30⟩ := lcons h29
  obtain ⟨e31, l31, rfl, h31⟩ := lcons h30
  obtain ⟨e32, l32, rfl, h32⟩ := lcons h31
  obtain ⟨e33, l33, rfl, h33⟩ := lcons h32
  obtain ⟨e34, l34, rfl, h34⟩ := lcons h33
  obtain ⟨e35, l35, rfl, h35⟩ := lcons h34
  obtain ⟨e36, l36, rfl, h36⟩ := lcons h35
  obtain ⟨e37, l37, rfl, h37⟩ := lcons h36
  obtain ⟨e38, l38, rfl, h38⟩ := lcons h37
  obtain ⟨e39, l39, rfl, h39⟩ := lcons h38
  obtain ⟨e40, l40, rfl, h40⟩ := lcons h39
  obtain ⟨e41, l41, rfl, h41⟩ := lcons h40
  obtain ⟨e42, l42, rfl, h42⟩ := lcons h41
  obtain ⟨e43, l43, rfl, h43⟩ := lcons h42
  obtain ⟨e44, l44, rfl, h44⟩ := lcons h43
  obtain ⟨e45, l45, rfl, h45⟩ := lcons h44
  obtain ⟨e46, l46, rfl, h46⟩ := lcons h45
  obtain ⟨e47, l47, rfl, h47⟩ := lcons h46
  obtain ⟨e48, l48, rfl, h48⟩ := lcons h47
  obtain ⟨e49, l49, rfl, h49⟩ := lcons h48
  obtain ⟨e50, l50, rfl, h50⟩ := lcons h49
  obtain ⟨e51, l51, rfl, h51⟩ := lcons h50
  obtain ⟨e52, l52, rfl, h52⟩ := lcons h51
  obtain ⟨e53, l53, rfl, h53⟩ := lcons h52
  obtain rfl := List.length_eq_zero_iff.1 h53
  exact k e0 e1 e2 e3 e4 e5 e6 e7 e8 e9 e10 e11 e12 e13 e14 e15 e16 e17 e18 e19 e20 e21 e22 e23 e24 e25 e26 e27 e28 e29 e30 e31 e32 e33 e34 e35 e36 e37 e38 e39 e40 e41 e42 e43 e44 e45 e46 e47 e48 e49 e50 e51 e52 e53
set_option maxRecDepth 10000 in
theorem arr22 {motive : Array Value → Prop} (k : ∀ e0 e1 e2 e3 e4 e5 e6 e7 e8 e9 e10 e11 e12 e13 e14 e15 e16 e17 e18 e19 e20 e21 : Value, motive #[e0, e1, e2, e3, e4, e5, e6, e7, e8, e9, e10, e11, e12, e13, e14, e15, e16, e17, e18, e19, e20, e21]) : ∀ T : Array Value, T.size = 22 → motive T := by
  intro T h
  obtain ⟨l⟩ := T
  have h : l.length = 22 := h
  obtain ⟨e0, l0, rfl, h0⟩ := lcons h
  obtain ⟨e1, l1, rfl, h1⟩ := lcons h0
  obtain ⟨e2, l2, rfl, h2⟩ := lcons h1
  obtain ⟨e3, l3, rfl, h3⟩ := lcons h2
  obtain ⟨e4, l4, rfl, h4⟩ := lcons h3
  obtain ⟨e5, l5, rfl, h5⟩ := lcons h4
  obtain ⟨e6, l6, rfl, h6⟩ := lcons h5
  obtain ⟨e7, l7, rfl, h7⟩ := lcons h6
  obtain ⟨e8, l8, rfl, h8⟩ := lcons h7
  obtain ⟨e9, l9, rfl, h9⟩ := lcons h8
  obtain ⟨e10, l10, rfl, h10⟩ := lcons h9
  obtain ⟨e11, l11, rfl, h11⟩ := lcons h10
  obtain ⟨e12, l12, rfl, h12⟩ := lcons h11
  obtain ⟨e13, l13, rfl, h13⟩ := lcons h12
  obtain ⟨e14, l14, rfl, h14⟩ := lcons h13
  obtain ⟨e15, l15, rfl, h15⟩ := lcons h14
  obtain ⟨e16, l16, rfl, h16⟩ := lcons h15
  obtain ⟨e17, l17, rfl, h17⟩ := lcons h16
  obtain ⟨e18, l18, rfl, h18⟩ := lcons h17
  obtain ⟨e19, l19, rfl, h19⟩ := lcons h18
  obtain ⟨e20, l20, rfl, h20⟩ := lcons h19
  obtain ⟨e21, l21, rfl, h21⟩ := lcons h20
  obtain rfl := List.length_eq_zero_iff.1 h21
  exact k e0 e1 e2 e3 e4 e5 e6 e7 e8 e9 e10 e11 e12 e13 e14 e15 e16 e17 e18 e19 e20 e21
set_option maxRecDepth 10000 in
theorem arr7 {motive : Array Value → Prop} (k : ∀ e0 e1 e2 e3 e4 e5 e6 : Value, motive #[e0, e1, e2, e3, e4, e5, e6]) : ∀ T : Array Value, T.size = 7 → motive T := by
  intro T h
  obtain ⟨l⟩ := T
  have h : l.length = 7 := h
  obtain ⟨e0, l0, rfl, h0⟩ := lcons h
  obtain ⟨e1, l1, rfl, h1⟩ := lcons h0
  obtain ⟨e2, l2, rfl, h2⟩ := lcons h1
  obtain ⟨e3, l3, rfl, h3⟩ := lcons h2
  obtain ⟨e4, l4, rfl, h4⟩ := lcons h3
  obtain ⟨e5, l5, rfl, h5⟩ := lcons h4
  obtain ⟨e6, l6, rfl, h6⟩ := lcons h5
  obtain rfl := List.length_eq_zero_iff.1 h6
  exact k e0 e1 e2 e3 e4 e5 e6
noncomputable def bEi : Code := Tryd.f46.body.getD .skip
noncomputable def eS : Code := cl (cl (cl (ct 1 bEi)))
noncomputable def er1 : Array Oper := co (cl (cl eS))
noncomputable def ek1 : Code := cth (cr (cl eS))
noncomputable def ez34 : Code := cl (cr eS)
noncomputable def er3 : Array Oper := co (cl ez34)
noncomputable def er4 : Array Oper := co (cl (cr ez34))
noncomputable def ek4 : Code := cth (cr (cr ez34))
noncomputable def ez6 : Code := cr (cr eS)
noncomputable def er6 : Array Oper := co (cl ez6)
noncomputable def ez9 : Code := cl (cr ez6)
noncomputable def er9 : Array Oper := co (cl ez9)
noncomputable def ek9 : Code := cth (cr ez9)
noncomputable def ez14 : Code := cel (cr ez9)
noncomputable def er14 : Array Oper := co (cl ez14)
noncomputable def ek14 : Code := cth (cr ez14)
noncomputable def eEnd : Code := cel (cr ez14)
theorem ei1 : ct 1 bEi = .block 0 (.loop (.block 1 eS)) := rfl
theorem ei2 : eS = .seq (.seq (.region 1 er1 false) (.cond (.tmp 19) ek1 .skip)) (.seq (.seq (.region 3 er3 false) (.seq (.region 4 er4 false) (.cond (.tmp 30) ek4 .skip))) (.seq (.region 6 er6 false) (.block 2 (.seq (.region 9 er9 false) (.cond (.tmp 33) ek9 (.seq (.region 14 er14 false) (.cond (.tmp 40) ek14 eEnd))))))) := rfl
noncomputable def bEs : Code := Tryd.f31.body.getD .skip
noncomputable def sr1 : Array Oper := co (cl (cl (ct 1 bEs)))
noncomputable def sr2 : Array Oper := co (cl (cth (cr (cl (ct 1 bEs)))))
noncomputable def sr3 : Array Oper := co (cl (cr (ct 1 bEs)))
noncomputable def sr4 : Array Oper := co (cl (cr (cr (ct 1 bEs))))
theorem es1 : ct 1 bEs = .seq (.seq (.region 1 sr1 false) (.cond (.tmp 11) (.seq (.region 2 sr2 false) .ret) .skip)) (.seq (.region 3 sr3 false) (.seq (.region 4 sr4 false) .ret)) := rfl
theorem nmIs : (Tryd.f46.name == "runtime.NumGoroutine") = false := by kernel_rfl
theorem nmIS : (Tryd.f31.name == "runtime.NumGoroutine") = false := by kernel_rfl
noncomputable def bCm : Code := Tryd.f18.body.getD .skip
noncomputable def mr1 : Array Oper := co (cl (ct 1 bCm))
theorem cm1 : ct 1 bCm = .seq (.region 1 mr1 false) .ret := rfl
theorem load_op {a : Act} {w : World} {o : Oper} {x : Operand} {v : Value} {p : Addr} (h : o.op = .load 43 x) (hx : a.eval x = .pointer (some p)) (hc : w.cell? p = some v) :
    Fit Tryd.prog (execOp a.eval o) ∧ (execOp a.eval o).run Tryd.prog w = .ok (.value v) w := by
  constructor
  · unfold execOp
    simp only [h]
    exact .bd (fit_loadAt _ _) fun _ => .pr _
  · unfold execOp
    simp only [h, hx]
    simp [go_sem, hc]

set_option maxRecDepth 20000 in
set_option maxHeartbeats 4000000 in
theorem is_same_g {a0 a1 : Addr} {u : World} (E : Errs u a0 a1) : GCalls Tryd.prog 46 #[.iface 124 (.pointer (some a0)), .iface 124 (.pointer (some a0)), .bool true] u fun v u' => v = .bool true := by
  refine GCalls.of (cd := bEi) Tryd.func46 rfl fun X c cs hXl => ?_
  have leave : ∀ {X' : Nat → Prop} {u1 : World} {a' : Act} {todo : List Item}, a'.defers = [] → a'.tmps.getD 6 undef = .bool true → Gw Tryd.prog X u (fun X' g' w' => ∃ v u', g' = G (c.finish v) cs ∧ Wd X u X' u' w' ∧ v = .bool true) X' u1 (G { (base 46).at a' todo with mode := .returning } (c :: cs)) := fun hd h2 =>
    Gw.leave (v := .bool true) Tryd.func46 hd (by rw [← h2]; simp [results, Tryd.f46]) (Gw.done (Post := fun v u' => v = .bool true) rfl)
  refine Gw.ctl rfl (fun w => stepG_seq (x := cl (ct 0 bEi)) (y := (ct 1 bEi))) ?_
  refine Gw.seg CC RR (f := 46) (N := fun a' u' => (a'.tmps.size = 54 ∧ a'.defers = [] ∧ a'.tmps.getD 0 undef = .iface 124 (.pointer (some a0)) ∧ a'.tmps.getD 1 undef = .iface 124 (.pointer (some a0)) ∧ a'.tmps.getD 2 undef = .bool true)) (Rt := fun a' u' => False) rfl (kn_nil rfl) rfl (by kernel_rfl) (fun _ _ _ _ h => h) (fun _ _ _ _ h => h) (fun t d => ?_) (fun A u1 hg h => ?_) fun _ _ _ _ _ h => h.elim
  · generalize World.re u t d = v
    simp only [bEi, cl, cr, ct, co, Tryd.f46, Option.getD_some, List.size_toArray, List.length_cons, List.length_nil, Nat.reduceAdd, Nat.reduceSub, Array.replicate_succ, Array.replicate_zero, List.push_toArray, List.append_toArray, List.nil_append, List.cons_append]
    go_wp2_with fail
    exact ⟨⟨rfl, rfl, rfl, rfl, rfl⟩, Ext.refl _ _⟩
  have hA := h
  clear h
  obtain ⟨T, ds⟩ := A
  obtain ⟨hsz, hds, h_0, h_1, h_2⟩ := hA
  obtain rfl : ds = [] := hds
  try clear hds
  replace hsz : T.size = 54 := hsz
  revert h_0 h_1 h_2
  revert hsz
  revert T
  refine arr54 ?_
  intro e0 e1 e2 e3 e4 e5 e6 e7 e8 e9 e10 e11 e12 e13 e14 e15 e16 e17 e18 e19 e20 e21 e22 e23 e24 e25 e26 e27 e28 e29 e30 e31 e32 e33 e34 e35 e36 e37 e38 e39 e40 e41 e42 e43 e44 e45 e46 e47 e48 e49 e50 e51 e52 e53 h_0 h_1 h_2
  have h_0 : e0 = .iface 124 (.pointer (some a0)) := h_0
  subst h_0
  have h_1 : e1 = .iface 124 (.pointer (some a0)) := h_1
  subst h_1
  have h_2 : e2 = .bool true := h_2
  subst h_2
  replace E : Errs u1 a0 a1 := E.gx hg
  clear hg
  rw [ei1]
  refine Gw.ctl rfl (fun w => stepG_block) ?_
  refine Gw.ctl rfl (fun w => stepG_loop) ?_
  refine Gw.ctl rfl (fun w => stepG_block) ?_
  generalize (Item.inBlock 1 :: Item.inLoop (.block 1 eS) :: [Item.inBlock 0]) = K
  rw [ei2]
  refine Gw.ctl rfl (fun w => stepG_seq) ?_
  refine Gw.ctl rfl (fun w => stepG_seq) ?_
  refine Gw.ctl rfl (fun w => stepG_region) ?_
  rw [show List.range er1.size = [0, 1, 2, 3, 4, 5] from rfl]
  refine Gw.mv (oo := er1.getD 0 default) rfl (.inl rfl) rfl (bkn _) ?_
  refine Gw.mv (oo := er1.getD 1 default) rfl (.inl rfl) rfl (bkn _) ?_
  refine Gw.mv (oo := er1.getD 2 default) rfl (.inl rfl) rfl (bkn _) ?_
  refine Gw.mv (oo := er1.getD 3 default) rfl (.inl rfl) rfl (bkn _) ?_
  refine (?_ : ∀ A : Act, (A.tmps.size = 54 ∧ A.defers = [] ∧ A.tmps.getD 0 undef = .iface 124 (.pointer (some a0)) ∧ A.tmps.getD 1 undef = .iface 124 (.pointer (some a0)) ∧ A.tmps.getD 2 undef = .bool true ∧ A.tmps.getD 15 undef = .bool true ∧ A.tmps.getD 16 undef = .iface 124 (.pointer (some a0)) ∧ A.tmps.getD 17 undef = .iface 124 (.pointer (some a0))) → Gw _ _ _ _ _ _ (G ((base 46).at A _) _)) _ ⟨rfl, rfl, rfl, rfl, rfl, rfl, rfl, rfl⟩
  intro A hA
  obtain ⟨T, ds⟩ := A
  obtain ⟨hsz, hds, h_0, h_1, h_2, h_15, h_16, h_17⟩ := hA
  obtain rfl : ds = [] := hds
  try clear hds
  replace hsz : T.size = 54 := hsz
  revert h_0 h_1 h_2 h_15 h_16 h_17
  revert hsz
  revert T
  refine arr54 ?_
  intro e0 e1 e2 e3 e4 e5 e6 e7 e8 e9 e10 e11 e12 e13 e14 e15 e16 e17 e18 e19 e20 e21 e22 e23 e24 e25 e26 e27 e28 e29 e30 e31 e32 e33 e34 e35 e36 e37 e38 e39 e40 e41 e42 e43 e44 e45 e46 e47 e48 e49 e50 e51 e52 e53 h_0 h_1 h_2 h_15 h_16 h_17
  have h_0 : e0 = .iface 124 (.pointer (some a0)) := h_0
  subst h_0
  have h_1 : e1 = .iface 124 (.pointer (some a0)) := h_1
  subst h_1
  have h_2 : e2 = .bool true := h_2
  subst h_2
  have h_15 : e15 = .bool true := h_15
  subst h_15
  have h_16 : e16 = .iface 124 (.pointer (some a0)) := h_16
  subst h_16
  have h_17 : e17 = .iface 124 (.pointer (some a0)) := h_17
  subst h_17
  refine Gw.valU (oo := er1.getD 4 default) (v := .bool true) rfl rfl (bkn _) (fun w hw => ?_) ?_
  · obtain ⟨⟨c0, t0, k0⟩, c1, t1, k1⟩ := E.true_ hw
    exact (fun h => ⟨h.1, by rw [h.2]; exact good_none⟩) (eqlpp_op (w := w) (o := er1.getD 4 default) (x := .tmp 16) (y := .tmp 17) (r := true) rfl rfl rfl k0 k0 (by simp))
  refine (?_ : ∀ A : Act, (A.tmps.size = 54 ∧ A.defers = [] ∧ A.tmps.getD 0 undef = .iface 124 (.pointer (some a0)) ∧ A.tmps.getD 1 undef = .iface 124 (.pointer (some a0)) ∧ A.tmps.getD 2 undef = .bool true ∧ A.tmps.getD 15 undef = .bool true ∧ A.tmps.getD 16 undef = .iface 124 (.pointer (some a0)) ∧ A.tmps.getD 17 undef = .iface 124 (.pointer (some a0)) ∧ A.tmps.getD 18 undef = .bool true) → Gw _ _ _ _ _ _ (G ((base 46).at A _) _)) _ ⟨rfl, rfl, rfl, rfl, rfl, rfl, rfl, rfl, rfl⟩
  intro A hA
  obtain ⟨T, ds⟩ := A
  obtain ⟨hsz, hds, h_0, h_1, h_2, h_15, h_16, h_17, h_18⟩ := hA
  obtain rfl : ds = [] := hds
  try clear hds
  replace hsz : T.size = 54 := hsz
  revert h_0 h_1 h_2 h_15 h_16 h_17 h_18
  revert hsz
  revert T
  refine arr54 ?_
  intro e0 e1 e2 e3 e4 e5 e6 e7 e8 e9 e10 e11 e12 e13 e14 e15 e16 e17 e18 e19 e20 e21 e22 e23 e24 e25 e26 e27 e28 e29 e30 e31 e32 e33 e34 e35 e36 e37 e38 e39 e40 e41 e42 e43 e44 e45 e46 e47 e48 e49 e50 e51 e52 e53 h_0 h_1 h_2 h_15 h_16 h_17 h_18
  have h_0 : e0 = .iface 124 (.pointer (some a0)) := h_0
  subst h_0
  have h_1 : e1 = .iface 124 (.pointer (some a0)) := h_1
  subst h_1
  have h_2 : e2 = .bool true := h_2
  subst h_2
  have h_15 : e15 = .bool true := h_15
  subst h_15
  have h_16 : e16 = .iface 124 (.pointer (some a0)) := h_16
  subst h_16
  have h_17 : e17 = .iface 124 (.pointer (some a0)) := h_17
  subst h_17
  have h_18 : e18 = .bool true := h_18
  subst h_18
  refine Gw.oprest CC RR (f := 46) (N := fun a' u' => (a'.tmps.size = 54 ∧ a'.defers = [] ∧ a'.tmps.getD 0 undef = .iface 124 (.pointer (some a0)) ∧ a'.tmps.getD 1 undef = .iface 124 (.pointer (some a0)) ∧ a'.tmps.getD 2 undef = .bool true ∧ a'.tmps.getD 19 undef = .bool true)) rfl (kn_nil rfl) rfl (by kernel_rfl) (fun _ _ _ _ h => h) (fun t d => ?_) (fun A u2 hg hA => ?_)
  · generalize World.re u1 t d = v
    refine wpOps_rest 5 rfl ?_
    simp only [er1, eS, bEi, cl, cr, ct, co, cth, cel, Tryd.f46, Option.getD_some, List.drop_succ_cons, List.drop_zero]
    go_wp2_with fail
    exact ⟨⟨rfl, rfl, rfl, rfl, rfl, rfl⟩, Ext.refl _ _⟩
  obtain ⟨T, ds⟩ := A
  obtain ⟨hsz, hds, h_0, h_1, h_2, h_19⟩ := hA
  obtain rfl : ds = [] := hds
  try clear hds
  replace hsz : T.size = 54 := hsz
  revert h_0 h_1 h_2 h_19
  revert hsz
  revert T
  refine arr54 ?_
  intro e0 e1 e2 e3 e4 e5 e6 e7 e8 e9 e10 e11 e12 e13 e14 e15 e16 e17 e18 e19 e20 e21 e22 e23 e24 e25 e26 e27 e28 e29 e30 e31 e32 e33 e34 e35 e36 e37 e38 e39 e40 e41 e42 e43 e44 e45 e46 e47 e48 e49 e50 e51 e52 e53 h_0 h_1 h_2 h_19
  have h_0 : e0 = .iface 124 (.pointer (some a0)) := h_0
  subst h_0
  have h_1 : e1 = .iface 124 (.pointer (some a0)) := h_1
  subst h_1
  have h_2 : e2 = .bool true := h_2
  subst h_2
  have h_19 : e19 = .bool true := h_19
  subst h_19
  replace E : Errs u2 a0 a1 := E.gx hg
  clear hg
  refine Gw.ctl rfl (fun w => stepG_cond (t := true) rfl) ?_
  refine Gw.seg CC RR (f := 46) (cd := ek1) (N := fun _ _ => False) (Rt := fun a' _ => a'.tmps.getD 6 undef = .bool true) rfl (kn_nil rfl) rfl (by kernel_rfl) (fun _ _ _ _ h => h) (fun _ _ _ _ h => h) (fun t d => ?_) (fun _ _ _ h => h.elim) fun A u9 todo hd hg h => leave hd h
  · generalize World.re u2 t d = v
    simp only [ek1, eS, bEi, cl, cr, ct, co, cth, cel, Tryd.f46, Option.getD_some]
    go_wp2_with fail
    exact ⟨rfl, Ext.refl _ _⟩

set_option maxRecDepth 20000 in
set_option maxHeartbeats 4000000 in
theorem is_other_g {a0 a1 : Addr} {u : World} (E : Errs u a0 a1) : GCalls Tryd.prog 46 #[.iface 124 (.pointer (some a1)), .iface 124 (.pointer (some a0)), .bool true] u fun v u' => v = .bool false := by
  refine GCalls.of (cd := bEi) Tryd.func46 rfl fun X c cs hXl => ?_
  have leave : ∀ {X' : Nat → Prop} {u1 : World} {a' : Act} {todo : List Item}, a'.defers = [] → a'.tmps.getD 6 undef = .bool false → Gw Tryd.prog X u (fun X' g' w' => ∃ v u', g' = G (c.finish v) cs ∧ Wd X u X' u' w' ∧ v = .bool false) X' u1 (G { (base 46).at a' todo with mode := .returning } (c :: cs)) := fun hd h2 =>
    Gw.leave (v := .bool false) Tryd.func46 hd (by rw [← h2]; simp [results, Tryd.f46]) (Gw.done (Post := fun v u' => v = .bool false) rfl)
  refine Gw.ctl rfl (fun w => stepG_seq (x := cl (ct 0 bEi)) (y := (ct 1 bEi))) ?_
  refine Gw.seg CC RR (f := 46) (N := fun a' u' => (a'.tmps.size = 54 ∧ a'.defers = [] ∧ a'.tmps.getD 0 undef = .iface 124 (.pointer (some a1)) ∧ a'.tmps.getD 1 undef = .iface 124 (.pointer (some a0)) ∧ a'.tmps.getD 2 undef = .bool true)) (Rt := fun a' u' => False) rfl (kn_nil rfl) rfl (by kernel_rfl) (fun _ _ _ _ h => h) (fun _ _ _ _ h => h) (fun t d => ?_) (fun A u1 hg h => ?_) fun _ _ _ _ _ h => h.elim
  · generalize World.re u t d = v
    simp only [bEi, cl, cr, ct, co, Tryd.f46, Option.getD_some, List.size_toArray, List.length_cons, List.length_nil, Nat.reduceAdd, Nat.reduceSub, Array.replicate_succ, Array.replicate_zero, List.push_toArray, List.append_toArray, List.nil_append, List.cons_append]
    go_wp2_with fail
    exact ⟨⟨rfl, rfl, rfl, rfl, rfl⟩, Ext.refl _ _⟩
  have hA := h
  clear h
  obtain ⟨T, ds⟩ := A
  obtain ⟨hsz, hds, h_0, h_1, h_2⟩ := hA
  obtain rfl : ds = [] := hds
  try clear hds
  replace hsz : T.size = 54 := hsz
  revert h_0 h_1 h_2
  revert hsz
  revert T
  refine arr54 ?_
  intro e0 e1 e2 e3 e4 e5 e6 e7 e8 e9 e10 e11 e12 e13 e14 e15 e16 e17 e18 e19 e20 e21 e22 e23 e24 e25 e26 e27 e28 e29 e30 e31 e32 e33 e34 e35 e36 e37 e38 e39 e40 e41 e42 e43 e44 e45 e46 e47 e48 e49 e50 e51 e52 e53 h_0 h_1 h_2
  have h_0 : e0 = .iface 124 (.pointer (some a1)) := h_0
  subst h_0
  have h_1 : e1 = .iface 124 (.pointer (some a0)) := h_1
  subst h_1
  have h_2 : e2 = .bool true := h_2
  subst h_2
  replace E : Errs u1 a0 a1 := E.gx hg
  clear hg
  rw [ei1]
  refine Gw.ctl rfl (fun w => stepG_block) ?_
  refine Gw.ctl rfl (fun w => stepG_loop) ?_
  refine Gw.ctl rfl (fun w => stepG_block) ?_
  generalize (Item.inBlock 1 :: Item.inLoop (.block 1 eS) :: [Item.inBlock 0]) = K
  rw [ei2]
  refine Gw.ctl rfl (fun w => stepG_seq) ?_
  refine Gw.ctl rfl (fun w => stepG_seq) ?_
  refine Gw.ctl rfl (fun w => stepG_region) ?_
  rw [show List.range er1.size = [0, 1, 2, 3, 4, 5] from rfl]
  refine Gw.mv (oo := er1.getD 0 default) rfl (.inl rfl) rfl (bkn _) ?_
  refine Gw.mv (oo := er1.getD 1 default) rfl (.inl rfl) rfl (bkn _) ?_
  refine Gw.mv (oo := er1.getD 2 default) rfl (.inl rfl) rfl (bkn _) ?_
  refine Gw.mv (oo := er1.getD 3 default) rfl (.inl rfl) rfl (bkn _) ?_
  refine (?_ : ∀ A : Act, (A.tmps.size = 54 ∧ A.defers = [] ∧ A.tmps.getD 0 undef = .iface 124 (.pointer (some a1)) ∧ A.tmps.getD 1 undef = .iface 124 (.pointer (some a0)) ∧ A.tmps.getD 2 undef = .bool true ∧ A.tmps.getD 15 undef = .bool true ∧ A.tmps.getD 16 undef = .iface 124 (.pointer (some a1)) ∧ A.tmps.getD 17 undef = .iface 124 (.pointer (some a0))) → Gw _ _ _ _ _ _ (G ((base 46).at A _) _)) _ ⟨rfl, rfl, rfl, rfl, rfl, rfl, rfl, rfl⟩
  intro A hA
  obtain ⟨T, ds⟩ := A
  obtain ⟨hsz, hds, h_0, h_1, h_2, h_15, h_16, h_17⟩ := hA
  obtain rfl : ds = [] := hds
  try clear hds
  replace hsz : T.size = 54 := hsz
  revert h_0 h_1 h_2 h_15 h_16 h_17
  revert hsz
  revert T
  refine arr54 ?_
  intro e0 e1 e2 e3 e4 e5 e6 e7 e8 e9 e10 e11 e12 e13 e14 e15 e16 e17 e18 e19 e20 e21 e22 e23 e24 e25 e26 e27 e28 e29 e30 e31 e32 e33 e34 e35 e36 e37 e38 e39 e40 e41 e42 e43 e44 e45 e46 e47 e48 e49 e50 e51 e52 e53 h_0 h_1 h_2 h_15 h_16 h_17
  have h_0 : e0 = .iface 124 (.pointer (some a1)) := h_0
  subst h_0
  have h_1 : e1 = .iface 124 (.pointer (some a0)) := h_1
  subst h_1
  have h_2 : e2 = .bool true := h_2
  subst h_2
  have h_15 : e15 = .bool true := h_15
  subst h_15
  have h_16 : e16 = .iface 124 (.pointer (some a1)) := h_16
  subst h_16
  have h_17 : e17 = .iface 124 (.pointer (some a0)) := h_17
  subst h_17
  refine Gw.valU (oo := er1.getD 4 default) (v := .bool false) rfl rfl (bkn _) (fun w hw => ?_) ?_
  · obtain ⟨⟨c0, t0, k0⟩, c1, t1, k1⟩ := E.true_ hw
    exact (fun h => ⟨h.1, by rw [h.2]; exact good_none⟩) (eqlpp_op (w := w) (o := er1.getD 4 default) (x := .tmp 16) (y := .tmp 17) (r := false) rfl rfl rfl k1 k0 (by simp [E.ne]))
  refine (?_ : ∀ A : Act, (A.tmps.size = 54 ∧ A.defers = [] ∧ A.tmps.getD 0 undef = .iface 124 (.pointer (some a1)) ∧ A.tmps.getD 1 undef = .iface 124 (.pointer (some a0)) ∧ A.tmps.getD 2 undef = .bool true ∧ A.tmps.getD 15 undef = .bool true ∧ A.tmps.getD 16 undef = .iface 124 (.pointer (some a1)) ∧ A.tmps.getD 17 undef = .iface 124 (.pointer (some a0)) ∧ A.tmps.getD 18 undef = .bool false) → Gw _ _ _ _ _ _ (G ((base 46).at A _) _)) _ ⟨rfl, rfl, rfl, rfl, rfl, rfl, rfl, rfl, rfl⟩
  intro A hA
  obtain ⟨T, ds⟩ := A
  obtain ⟨hsz, hds, h_0, h_1, h_2, h_15, h_16, h_17, h_18⟩ := hA
  obtain rfl : ds = [] := hds
  try clear hds
  replace hsz : T.size = 54 := hsz
  revert h_0 h_1 h_2 h_15 h_16 h_17 h_18
  revert hsz
  revert T
  refine arr54 ?_
  intro e0 e1 e2 e3 e4 e5 e6 e7 e8 e9 e10 e11 e12 e13 e14 e15 e16 e17 e18 e19 e20 e21 e22 e23 e24 e25 e26 e27 e28 e29 e30 e31 e32 e33 e34 e35 e36 e37 e38 e39 e40 e41 e42 e43 e44 e45 e46 e47 e48 e49 e50 e51 e52 e53 h_0 h_1 h_2 h_15 h_16 h_17 h_18
  have h_0 : e0 = .iface 124 (.pointer (some a1)) := h_0
  subst h_0
  have h_1 : e1 = .iface 124 (.pointer (some a0)) := h_1
  subst h_1
  have h_2 : e2 = .bool true := h_2
  subst h_2
  have h_15 : e15 = .bool true := h_15
  subst h_15
  have h_16 : e16 = .iface 124 (.pointer (some a1)) := h_16
  subst h_16
  have h_17 : e17 = .iface 124 (.pointer (some a0)) := h_17
  subst h_17
  have h_18 : e18 = .bool false := h_18
  subst h_18
  refine Gw.oprest CC RR (f := 46) (N := fun a' u' => (a'.tmps.size = 54 ∧ a'.defers = [] ∧ a'.tmps.getD 0 undef = .iface 124 (.pointer (some a1)) ∧ a'.tmps.getD 1 undef = .iface 124 (.pointer (some a0)) ∧ a'.tmps.getD 2 undef = .bool true ∧ a'.tmps.getD 19 undef = .bool false)) rfl (kn_nil rfl) rfl (by kernel_rfl) (fun _ _ _ _ h => h) (fun t d => ?_) (fun A u2 hg hA => ?_)
  · generalize World.re u1 t d = v
    refine wpOps_rest 5 rfl ?_
    simp only [er1, eS, bEi, cl, cr, ct, co, cth, cel, Tryd.f46, Option.getD_some, List.drop_succ_cons, List.drop_zero]
    go_wp2_with fail
    exact ⟨⟨rfl, rfl, rfl, rfl, rfl, rfl⟩, Ext.refl _ _⟩
  obtain ⟨T, ds⟩ := A
  obtain ⟨hsz, hds, h_0, h_1, h_2, h_19⟩ := hA
  obtain rfl : ds = [] := hds
  try clear hds
  replace hsz : T.size = 54 := hsz
  revert h_0 h_1 h_2 h_19
  revert hsz
  revert T
  refine arr54 ?_
  intro e0 e1 e2 e3 e4 e5 e6 e7 e8 e9 e10 e11 e12 e13 e14 e15 e16 e17 e18 e19 e20 e21 e22 e23 e24 e25 e26 e27 e28 e29 e30 e31 e32 e33 e34 e35 e36 e37 e38 e39 e40 e41 e42 e43 e44 e45 e46 e47 e48 e49 e50 e51 e52 e53 h_0 h_1 h_2 h_19
  have h_0 : e0 = .iface 124 (.pointer (some a1)) := h_0
  subst h_0
  have h_1 : e1 = .iface 124 (.pointer (some a0)) := h_1
  subst h_1
  have h_2 : e2 = .bool true := h_2
  subst h_2
  have h_19 : e19 = .bool false := h_19
  subst h_19
  replace E : Errs u2 a0 a1 := E.gx hg
  clear hg
  refine Gw.ctl rfl (fun w => stepG_cond (t := false) rfl) ?_
  refine Gw.ctl rfl (fun w => stepG_skip) ?_
  refine Gw.ctl rfl (fun w => stepG_seq) ?_
  refine Gw.ctl rfl (fun w => stepG_seq) ?_
  refine Gw.ctl rfl (fun w => stepG_region) ?_
  rw [show List.range er3.size = [0, 1, 2, 3, 4, 5, 6] from rfl]
  refine Gw.mv (oo := er3.getD 0 default) rfl (.inl rfl) rfl (bkn _) ?_
  refine (?_ : ∀ A : Act, (A.tmps.size = 54 ∧ A.defers = [] ∧ A.tmps.getD 0 undef = .iface 124 (.pointer (some a1)) ∧ A.tmps.getD 1 undef = .iface 124 (.pointer (some a0)) ∧ A.tmps.getD 2 undef = .bool true ∧ A.tmps.getD 21 undef = .iface 124 (.pointer (some a1))) → Gw _ _ _ _ _ _ (G ((base 46).at A _) _)) _ ⟨rfl, rfl, rfl, rfl, rfl, rfl⟩
  intro A hA
  obtain ⟨T, ds⟩ := A
  obtain ⟨hsz, hds, h_0, h_1, h_2, h_21⟩ := hA
  obtain rfl : ds = [] := hds
  try clear hds
  replace hsz : T.size = 54 := hsz
  revert h_0 h_1 h_2 h_21
  revert hsz
  revert T
  refine arr54 ?_
  intro e0 e1 e2 e3 e4 e5 e6 e7 e8 e9 e10 e11 e12 e13 e14 e15 e16 e17 e18 e19 e20 e21 e22 e23 e24 e25 e26 e27 e28 e29 e30 e31 e32 e33 e34 e35 e36 e37 e38 e39 e40 e41 e42 e43 e44 e45 e46 e47 e48 e49 e50 e51 e52 e53 h_0 h_1 h_2 h_21
  have h_0 : e0 = .iface 124 (.pointer (some a1)) := h_0
  subst h_0
  have h_1 : e1 = .iface 124 (.pointer (some a0)) := h_1
  subst h_1
  have h_2 : e2 = .bool true := h_2
  subst h_2
  have h_21 : e21 = .iface 124 (.pointer (some a1)) := h_21
  subst h_21
  refine Gw.fop (oo := er3.getD 1 default) (v := .tuple #[.nilIface, .bool false]) rfl rfl (bkn _) (assert_op (w := u2) (o := er3.getD 1 default) (x := .tmp 21) (.inl rfl) rfl rfl).1 (assert_op (w := u2) (o := er3.getD 1 default) (x := .tmp 21) (.inl rfl) rfl rfl).2 ?_
  refine (?_ : ∀ A : Act, (A.tmps.size = 54 ∧ A.defers = [] ∧ A.tmps.getD 0 undef = .iface 124 (.pointer (some a1)) ∧ A.tmps.getD 1 undef = .iface 124 (.pointer (some a0)) ∧ A.tmps.getD 2 undef = .bool true ∧ A.tmps.getD 21 undef = .iface 124 (.pointer (some a1)) ∧ A.tmps.getD 22 undef = .tuple #[.nilIface, .bool false]) → Gw _ _ _ _ _ _ (G ((base 46).at A _) _)) _ ⟨rfl, rfl, rfl, rfl, rfl, rfl, rfl⟩
  intro A hA
  obtain ⟨T, ds⟩ := A
  obtain ⟨hsz, hds, h_0, h_1, h_2, h_21, h_22⟩ := hA
  obtain rfl : ds = [] := hds
  try clear hds
  replace hsz : T.size = 54 := hsz
  revert h_0 h_1 h_2 h_21 h_22
  revert hsz
  revert T
  refine arr54 ?_
  intro e0 e1 e2 e3 e4 e5 e6 e7 e8 e9 e10 e11 e12 e13 e14 e15 e16 e17 e18 e19 e20 e21 e22 e23 e24 e25 e26 e27 e28 e29 e30 e31 e32 e33 e34 e35 e36 e37 e38 e39 e40 e41 e42 e43 e44 e45 e46 e47 e48 e49 e50 e51 e52 e53 h_0 h_1 h_2 h_21 h_22
  have h_0 : e0 = .iface 124 (.pointer (some a1)) := h_0
  subst h_0
  have h_1 : e1 = .iface 124 (.pointer (some a0)) := h_1
  subst h_1
  have h_2 : e2 = .bool true := h_2
  subst h_2
  have h_21 : e21 = .iface 124 (.pointer (some a1)) := h_21
  subst h_21
  have h_22 : e22 = .tuple #[.nilIface, .bool false] := h_22
  subst h_22
  refine Gw.oprest CC RR (f := 46) (N := fun a' u' => (a'.tmps.size = 54 ∧ a'.defers = [] ∧ a'.tmps.getD 0 undef = .iface 124 (.pointer (some a1)) ∧ a'.tmps.getD 1 undef = .iface 124 (.pointer (some a0)) ∧ a'.tmps.getD 2 undef = .bool true ∧ a'.tmps.getD 7 undef = .nilIface ∧ a'.tmps.getD 8 undef = .bool false)) rfl (kn_nil rfl) rfl (by kernel_rfl) (fun _ _ _ _ h => h) (fun t d => ?_) (fun A u3 hg hA => ?_)
  · generalize World.re u2 t d = v
    refine wpOps_rest 2 rfl ?_
    simp only [er3, eS, bEi, cl, cr, ct, co, cth, cel, Tryd.f46, Option.getD_some, List.drop_succ_cons, List.drop_zero]
    go_wp2_with fail
    exact ⟨⟨rfl, rfl, rfl, rfl, rfl, rfl, rfl⟩, Ext.refl _ _⟩
  obtain ⟨T, ds⟩ := A
  obtain ⟨hsz, hds, h_0, h_1, h_2, h_7, h_8⟩ := hA
  obtain rfl : ds = [] := hds
  try clear hds
  replace hsz : T.size = 54 := hsz
  revert h_0 h_1 h_2 h_7 h_8
  revert hsz
  revert T
  refine arr54 ?_
  intro e0 e1 e2 e3 e4 e5 e6 e7 e8 e9 e10 e11 e12 e13 e14 e15 e16 e17 e18 e19 e20 e21 e22 e23 e24 e25 e26 e27 e28 e29 e30 e31 e32 e33 e34 e35 e36 e37 e38 e39 e40 e41 e42 e43 e44 e45 e46 e47 e48 e49 e50 e51 e52 e53 h_0 h_1 h_2 h_7 h_8
  have h_0 : e0 = .iface 124 (.pointer (some a1)) := h_0
  subst h_0
  have h_1 : e1 = .iface 124 (.pointer (some a0)) := h_1
  subst h_1
  have h_2 : e2 = .bool true := h_2
  subst h_2
  have h_7 : e7 = .nilIface := h_7
  subst h_7
  have h_8 : e8 = .bool false := h_8
  subst h_8
  replace E : Errs u3 a0 a1 := E.gx hg
  clear hg
  refine Gw.ctl rfl (fun w => stepG_seq) ?_
  refine Gw.ctl rfl (fun w => stepG_region) ?_
  rw [show List.range er4.size = [0, 1, 2, 3, 4, 5] from rfl]
  refine Gw.mv (oo := er4.getD 0 default) rfl (.inl rfl) rfl (bkn _) ?_
  refine Gw.mv (oo := er4.getD 1 default) rfl (.inl rfl) rfl (bkn _) ?_
  refine Gw.skip (oo := er4.getD 2 default) rfl rfl ?_
  refine Gw.skip (oo := er4.getD 3 default) rfl rfl ?_
  refine Gw.skip (oo := er4.getD 4 default) rfl rfl ?_
  refine (?_ : ∀ A : Act, (A.tmps.size = 54 ∧ A.defers = [] ∧ A.tmps.getD 0 undef = .iface 124 (.pointer (some a1)) ∧ A.tmps.getD 1 undef = .iface 124 (.pointer (some a0)) ∧ A.tmps.getD 2 undef = .bool true ∧ A.tmps.getD 26 undef = .bool false) → Gw _ _ _ _ _ _ (G ((base 46).at A _) _)) _ ⟨rfl, rfl, rfl, rfl, rfl, rfl⟩
  intro A hA
  obtain ⟨T, ds⟩ := A
  obtain ⟨hsz, hds, h_0, h_1, h_2, h_26⟩ := hA
  obtain rfl : ds = [] := hds
  try clear hds
  replace hsz : T.size = 54 := hsz
  revert h_0 h_1 h_2 h_26
  revert hsz
  revert T
  refine arr54 ?_
  intro e0 e1 e2 e3 e4 e5 e6 e7 e8 e9 e10 e11 e12 e13 e14 e15 e16 e17 e18 e19 e20 e21 e22 e23 e24 e25 e26 e27 e28 e29 e30 e31 e32 e33 e34 e35 e36 e37 e38 e39 e40 e41 e42 e43 e44 e45 e46 e47 e48 e49 e50 e51 e52 e53 h_0 h_1 h_2 h_26
  have h_0 : e0 = .iface 124 (.pointer (some a1)) := h_0
  subst h_0
  have h_1 : e1 = .iface 124 (.pointer (some a0)) := h_1
  subst h_1
  have h_2 : e2 = .bool true := h_2
  subst h_2
  have h_26 : e26 = .bool false := h_26
  subst h_26
  refine Gw.oprest CC RR (f := 46) (N := fun a' u' => (a'.tmps.size = 54 ∧ a'.defers = [] ∧ a'.tmps.getD 0 undef = .iface 124 (.pointer (some a1)) ∧ a'.tmps.getD 1 undef = .iface 124 (.pointer (some a0)) ∧ a'.tmps.getD 2 undef = .bool true ∧ a'.tmps.getD 30 undef = .bool false)) rfl (kn_nil rfl) rfl (by kernel_rfl) (fun _ _ _ _ h => h) (fun t d => ?_) (fun A u4 hg hA => ?_)
  · generalize World.re u3 t d = v
    refine wpOps_rest 5 rfl ?_
    simp only [er4, eS, bEi, cl, cr, ct, co, cth, cel, Tryd.f46, Option.getD_some, List.drop_succ_cons, List.drop_zero]
    go_wp2_with fail
    exact ⟨⟨rfl, rfl, rfl, rfl, rfl, rfl⟩, Ext.refl _ _⟩
  obtain ⟨T, ds⟩ := A
  obtain ⟨hsz, hds, h_0, h_1, h_2, h_30⟩ := hA
  obtain rfl : ds = [] := hds
  try clear hds
  replace hsz : T.size = 54 := hsz
  revert h_0 h_1 h_2 h_30
  revert hsz
  revert T
  refine arr54 ?_
  intro e0 e1 e2 e3 e4 e5 e6 e7 e8 e9 e10 e11 e12 e13 e14 e15 e16 e17 e18 e19 e20 e21 e22 e23 e24 e25 e26 e27 e28 e29 e30 e31 e32 e33 e34 e35 e36 e37 e38 e39 e40 e41 e42 e43 e44 e45 e46 e47 e48 e49 e50 e51 e52 e53 h_0 h_1 h_2 h_30
  have h_0 : e0 = .iface 124 (.pointer (some a1)) := h_0
  subst h_0
  have h_1 : e1 = .iface 124 (.pointer (some a0)) := h_1
  subst h_1
  have h_2 : e2 = .bool true := h_2
  subst h_2
  have h_30 : e30 = .bool false := h_30
  subst h_30
  replace E : Errs u4 a0 a1 := E.gx hg
  clear hg
  refine Gw.ctl rfl (fun w => stepG_cond (t := false) rfl) ?_
  refine Gw.ctl rfl (fun w => stepG_skip) ?_
  refine Gw.ctl rfl (fun w => stepG_seq) ?_
  refine Gw.ctl rfl (fun w => stepG_region) ?_
  rw [show List.range er6.size = [0] from rfl]
  refine Gw.mv (oo := er6.getD 0 default) rfl (.inl rfl) rfl (bkn _) ?_
  refine Gw.ctl rfl (fun w => stepG_region_end) ?_
  refine (?_ : ∀ A : Act, (A.tmps.size = 54 ∧ A.defers = [] ∧ A.tmps.getD 0 undef = .iface 124 (.pointer (some a1)) ∧ A.tmps.getD 1 undef = .iface 124 (.pointer (some a0)) ∧ A.tmps.getD 2 undef = .bool true ∧ A.tmps.getD 31 undef = .iface 124 (.pointer (some a1))) → Gw _ _ _ _ _ _ (G ((base 46).at A _) _)) _ ⟨rfl, rfl, rfl, rfl, rfl, rfl⟩
  intro A hA
  obtain ⟨T, ds⟩ := A
  obtain ⟨hsz, hds, h_0, h_1, h_2, h_31⟩ := hA
  obtain rfl : ds = [] := hds
  try clear hds
  replace hsz : T.size = 54 := hsz
  revert h_0 h_1 h_2 h_31
  revert hsz
  revert T
  refine arr54 ?_
  intro e0 e1 e2 e3 e4 e5 e6 e7 e8 e9 e10 e11 e12 e13 e14 e15 e16 e17 e18 e19 e20 e21 e22 e23 e24 e25 e26 e27 e28 e29 e30 e31 e32 e33 e34 e35 e36 e37 e38 e39 e40 e41 e42 e43 e44 e45 e46 e47 e48 e49 e50 e51 e52 e53 h_0 h_1 h_2 h_31
  have h_0 : e0 = .iface 124 (.pointer (some a1)) := h_0
  subst h_0
  have h_1 : e1 = .iface 124 (.pointer (some a0)) := h_1
  subst h_1
  have h_2 : e2 = .bool true := h_2
  subst h_2
  have h_31 : e31 = .iface 124 (.pointer (some a1)) := h_31
  subst h_31
  refine Gw.ctl rfl (fun w => stepG_block) ?_
  refine Gw.ctl rfl (fun w => stepG_seq) ?_
  refine Gw.ctl rfl (fun w => stepG_region) ?_
  rw [show List.range er9.size = [0, 1, 2] from rfl]
  refine Gw.fop (oo := er9.getD 0 default) (v := .tuple #[.nilIface, .bool false]) rfl rfl (bkn _) (assert_op (w := u4) (o := er9.getD 0 default) (x := .tmp 31) (.inr (.inl rfl)) rfl rfl).1 (assert_op (w := u4) (o := er9.getD 0 default) (x := .tmp 31) (.inr (.inl rfl)) rfl rfl).2 ?_
  refine (?_ : ∀ A : Act, (A.tmps.size = 54 ∧ A.defers = [] ∧ A.tmps.getD 0 undef = .iface 124 (.pointer (some a1)) ∧ A.tmps.getD 1 undef = .iface 124 (.pointer (some a0)) ∧ A.tmps.getD 2 undef = .bool true ∧ A.tmps.getD 31 undef = .iface 124 (.pointer (some a1)) ∧ A.tmps.getD 32 undef = .tuple #[.nilIface, .bool false]) → Gw _ _ _ _ _ _ (G ((base 46).at A _) _)) _ ⟨rfl, rfl, rfl, rfl, rfl, rfl, rfl⟩
  intro A hA
  obtain ⟨T, ds⟩ := A
  obtain ⟨hsz, hds, h_0, h_1, h_2, h_31, h_32⟩ := hA
  obtain rfl : ds = [] := hds
  try clear hds
  replace hsz : T.size = 54 := hsz
  revert h_0 h_1 h_2 h_31 h_32
  revert hsz
  revert T
  refine arr54 ?_
  intro e0 e1 e2 e3 e4 e5 e6 e7 e8 e9 e10 e11 e12 e13 e14 e15 e16 e17 e18 e19 e20 e21 e22 e23 e24 e25 e26 e27 e28 e29 e30 e31 e32 e33 e34 e35 e36 e37 e38 e39 e40 e41 e42 e43 e44 e45 e46 e47 e48 e49 e50 e51 e52 e53 h_0 h_1 h_2 h_31 h_32
  have h_0 : e0 = .iface 124 (.pointer (some a1)) := h_0
  subst h_0
  have h_1 : e1 = .iface 124 (.pointer (some a0)) := h_1
  subst h_1
  have h_2 : e2 = .bool true := h_2
  subst h_2
  have h_31 : e31 = .iface 124 (.pointer (some a1)) := h_31
  subst h_31
  have h_32 : e32 = .tuple #[.nilIface, .bool false] := h_32
  subst h_32
  refine Gw.oprest CC RR (f := 46) (N := fun a' u' => (a'.tmps.size = 54 ∧ a'.defers = [] ∧ a'.tmps.getD 0 undef = .iface 124 (.pointer (some a1)) ∧ a'.tmps.getD 1 undef = .iface 124 (.pointer (some a0)) ∧ a'.tmps.getD 2 undef = .bool true ∧ a'.tmps.getD 31 undef = .iface 124 (.pointer (some a1)) ∧ a'.tmps.getD 33 undef = .bool false)) rfl (kn_nil rfl) rfl (by kernel_rfl) (fun _ _ _ _ h => h) (fun t d => ?_) (fun A u5 hg hA => ?_)
  · generalize World.re u4 t d = v
    refine wpOps_rest 1 rfl ?_
    simp only [er9, eS, bEi, cl, cr, ct, co, cth, cel, Tryd.f46, Option.getD_some, List.drop_succ_cons, List.drop_zero]
    go_wp2_with fail
    exact ⟨⟨rfl, rfl, rfl, rfl, rfl, rfl, rfl⟩, Ext.refl _ _⟩
  obtain ⟨T, ds⟩ := A
  obtain ⟨hsz, hds, h_0, h_1, h_2, h_31, h_33⟩ := hA
  obtain rfl : ds = [] := hds
  try clear hds
  replace hsz : T.size = 54 := hsz
  revert h_0 h_1 h_2 h_31 h_33
  revert hsz
  revert T
  refine arr54 ?_
  intro e0 e1 e2 e3 e4 e5 e6 e7 e8 e9 e10 e11 e12 e13 e14 e15 e16 e17 e18 e19 e20 e21 e22 e23 e24 e25 e26 e27 e28 e29 e30 e31 e32 e33 e34 e35 e36 e37 e38 e39 e40 e41 e42 e43 e44 e45 e46 e47 e48 e49 e50 e51 e52 e53 h_0 h_1 h_2 h_31 h_33
  have h_0 : e0 = .iface 124 (.pointer (some a1)) := h_0
  subst h_0
  have h_1 : e1 = .iface 124 (.pointer (some a0)) := h_1
  subst h_1
  have h_2 : e2 = .bool true := h_2
  subst h_2
  have h_31 : e31 = .iface 124 (.pointer (some a1)) := h_31
  subst h_31
  have h_33 : e33 = .bool false := h_33
  subst h_33
  replace E : Errs u5 a0 a1 := E.gx hg
  clear hg
  refine Gw.ctl rfl (fun w => stepG_cond (t := false) rfl) ?_
  refine Gw.ctl rfl (fun w => stepG_seq (x := .region 14 er14 false) (y := .cond (.tmp 40) ek14 eEnd)) ?_
  refine Gw.ctl rfl (fun w => stepG_region) ?_
  rw [show List.range er14.size = [0, 1, 2] from rfl]
  refine Gw.fop (oo := er14.getD 0 default) (v := .tuple #[.nilIface, .bool false]) rfl rfl (bkn _) (assert_op (w := u5) (o := er14.getD 0 default) (x := .tmp 31) (.inr (.inr rfl)) rfl rfl).1 (assert_op (w := u5) (o := er14.getD 0 default) (x := .tmp 31) (.inr (.inr rfl)) rfl rfl).2 ?_
  refine (?_ : ∀ A : Act, (A.tmps.size = 54 ∧ A.defers = [] ∧ A.tmps.getD 0 undef = .iface 124 (.pointer (some a1)) ∧ A.tmps.getD 1 undef = .iface 124 (.pointer (some a0)) ∧ A.tmps.getD 2 undef = .bool true ∧ A.tmps.getD 31 undef = .iface 124 (.pointer (some a1)) ∧ A.tmps.getD 39 undef = .tuple #[.nilIface, .bool false]) → Gw _ _ _ _ _ _ (G ((base 46).at A _) _)) _ ⟨rfl, rfl, rfl, rfl, rfl, rfl, rfl⟩
  intro A hA
  obtain ⟨T, ds⟩ := A
  obtain ⟨hsz, hds, h_0, h_1, h_2, h_31, h_39⟩ := hA
  obtain rfl : ds = [] := hds
  try clear hds
  replace hsz : T.size = 54 := hsz
  revert h_0 h_1 h_2 h_31 h_39
  revert hsz
  revert T
  refine arr54 ?_
  intro e0 e1 e2 e3 e4 e5 e6 e7 e8 e9 e10 e11 e12 e13 e14 e15 e16 e17 e18 e19 e20 e21 e22 e23 e24 e25 e26 e27 e28 e29 e30 e31 e32 e33 e34 e35 e36 e37 e38 e39 e40 e41 e42 e43 e44 e45 e46 e47 e48 e49 e50 e51 e52 e53 h_0 h_1 h_2 h_31 h_39
  have h_0 : e0 = .iface 124 (.pointer (some a1)) := h_0
  subst h_0
  have h_1 : e1 = .iface 124 (.pointer (some a0)) := h_1
  subst h_1
  have h_2 : e2 = .bool true := h_2
  subst h_2
  have h_31 : e31 = .iface 124 (.pointer (some a1)) := h_31
  subst h_31
  have h_39 : e39 = .tuple #[.nilIface, .bool false] := h_39
  subst h_39
  refine Gw.oprest CC RR (f := 46) (N := fun a' u' => (a'.tmps.size = 54 ∧ a'.defers = [] ∧ a'.tmps.getD 0 undef = .iface 124 (.pointer (some a1)) ∧ a'.tmps.getD 1 undef = .iface 124 (.pointer (some a0)) ∧ a'.tmps.getD 2 undef = .bool true ∧ a'.tmps.getD 31 undef = .iface 124 (.pointer (some a1)) ∧ a'.tmps.getD 40 undef = .bool false)) rfl (kn_nil rfl) rfl (by kernel_rfl) (fun _ _ _ _ h => h) (fun t d => ?_) (fun A u6 hg hA => ?_)
  · generalize World.re u5 t d = v
    refine wpOps_rest 1 rfl ?_
    simp only [er14, eS, bEi, cl, cr, ct, co, cth, cel, Tryd.f46, Option.getD_some, List.drop_succ_cons, List.drop_zero]
    go_wp2_with fail
    exact ⟨⟨rfl, rfl, rfl, rfl, rfl, rfl, rfl⟩, Ext.refl _ _⟩
  obtain ⟨T, ds⟩ := A
  obtain ⟨hsz, hds, h_0, h_1, h_2, h_31, h_40⟩ := hA
  obtain rfl : ds = [] := hds
  try clear hds
  replace hsz : T.size = 54 := hsz
  revert h_0 h_1 h_2 h_31 h_40
  revert hsz
  revert T
  refine arr54 ?_
  intro e0 e1 e2 e3 e4 e5 e6 e7 e8 e9 e10 e11 e12 e13 e14 e15 e16 e17 e18 e19 e20 e21 e22 e23 e24 e25 e26 e27 e28 e29 e30 e31 e32 e33 e34 e35 e36 e37 e38 e39 e40 e41 e42 e43 e44 e45 e46 e47 e48 e49 e50 e51 e52 e53 h_0 h_1 h_2 h_31 h_40
  have h_0 : e0 = .iface 124 (.pointer (some a1)) := h_0
  subst h_0
  have h_1 : e1 = .iface 124 (.pointer (some a0)) := h_1
  subst h_1
  have h_2 : e2 = .bool true := h_2
  subst h_2
  have h_31 : e31 = .iface 124 (.pointer (some a1)) := h_31
  subst h_31
  have h_40 : e40 = .bool false := h_40
  subst h_40
  replace E : Errs u6 a0 a1 := E.gx hg
  clear hg
  refine Gw.ctl rfl (fun w => stepG_cond (t := false) rfl) ?_
  refine Gw.seg CC RR (f := 46) (cd := eEnd) (N := fun _ _ => False) (Rt := fun a' _ => a'.tmps.getD 6 undef = .bool false) rfl (kn_nil rfl) rfl (by kernel_rfl) (fun _ _ _ _ h => h) (fun _ _ _ _ h => h) (fun t d => ?_) (fun _ _ _ h => h.elim) fun A u9 todo hd hg h => leave hd h
  · generalize World.re u6 t d = v
    simp only [eEnd, ez14, ez9, ez6, eS, bEi, cl, cr, ct, co, cth, cel, Tryd.f46, Option.getD_some]
    go_wp2_with fail
    exact ⟨rfl, Ext.refl _ _⟩

set_option maxRecDepth 20000 in
set_option maxHeartbeats 4000000 in
theorem Is_nil_g {a0 a1 : Addr} {u : World} (E : Errs u a0 a1) : GCalls Tryd.prog 31 #[.nilIface, .iface 124 (.pointer (some a0))] u fun v u' => v = .bool false := by
  refine GCalls.of (cd := bEs) Tryd.func31 rfl fun X c cs hXl => ?_
  have leave : ∀ {X' : Nat → Prop} {u1 : World} {a' : Act} {todo : List Item}, a'.defers = [] → a'.tmps.getD 4 undef = .bool false → Gw Tryd.prog X u (fun X' g' w' => ∃ v u', g' = G (c.finish v) cs ∧ Wd X u X' u' w' ∧ v = .bool false) X' u1 (G { (base 31).at a' todo with mode := .returning } (c :: cs)) := fun hd h2 =>
    Gw.leave (v := .bool false) Tryd.func31 hd (by rw [← h2]; simp [results, Tryd.f31]) (Gw.done (Post := fun v u' => v = .bool false) rfl)
  refine Gw.ctl rfl (fun w => stepG_seq (x := cl (ct 0 bEs)) (y := (ct 1 bEs))) ?_
  refine Gw.seg CC RR (f := 31) (N := fun a' u' => (a'.tmps.size = 22 ∧ a'.defers = [] ∧ a'.tmps.getD 0 undef = .nilIface ∧ a'.tmps.getD 1 undef = .iface 124 (.pointer (some a0)))) (Rt := fun a' u' => False) rfl (kn_nil rfl) rfl (by kernel_rfl) (fun _ _ _ _ h => h) (fun _ _ _ _ h => h) (fun t d => ?_) (fun A u1 hg h => ?_) fun _ _ _ _ _ h => h.elim
  · generalize World.re u t d = v
    simp only [bEs, cl, cr, ct, co, Tryd.f31, Option.getD_some, List.size_toArray, List.length_cons, List.length_nil, Nat.reduceAdd, Nat.reduceSub, Array.replicate_succ, Array.replicate_zero, List.push_toArray, List.append_toArray, List.nil_append, List.cons_append]
    go_wp2_with fail
    exact ⟨⟨rfl, rfl, rfl, rfl⟩, Ext.refl _ _⟩
  have hA := h
  clear h
  obtain ⟨T, ds⟩ := A
  obtain ⟨hsz, hds, h_0, h_1⟩ := hA
  obtain rfl : ds = [] := hds
  try clear hds
  replace hsz : T.size = 22 := hsz
  revert h_0 h_1
  revert hsz
  revert T
  refine arr22 ?_
  intro e0 e1 e2 e3 e4 e5 e6 e7 e8 e9 e10 e11 e12 e13 e14 e15 e16 e17 e18 e19 e20 e21 h_0 h_1
  have h_0 : e0 = .nilIface := h_0
  subst h_0
  have h_1 : e1 = .iface 124 (.pointer (some a0)) := h_1
  subst h_1
  replace E : Errs u1 a0 a1 := E.gx hg
  clear hg
  rw [es1]
  refine Gw.ctl rfl (fun w => stepG_seq) ?_
  refine Gw.ctl rfl (fun w => stepG_seq) ?_
  refine Gw.ctl rfl (fun w => stepG_region) ?_
  rw [show List.range sr1.size = [0, 1, 2, 3, 4, 5] from rfl]
  refine Gw.mv (oo := sr1.getD 0 default) rfl (.inl rfl) rfl (bkn _) ?_
  refine (?_ : ∀ A : Act, (A.tmps.size = 22 ∧ A.defers = [] ∧ A.tmps.getD 0 undef = .nilIface ∧ A.tmps.getD 1 undef = .iface 124 (.pointer (some a0)) ∧ A.tmps.getD 6 undef = .nilIface) → Gw _ _ _ _ _ _ (G ((base 31).at A _) _)) _ ⟨rfl, rfl, rfl, rfl, rfl⟩
  intro A hA
  obtain ⟨T, ds⟩ := A
  obtain ⟨hsz, hds, h_0, h_1, h_6⟩ := hA
  obtain rfl : ds = [] := hds
  try clear hds
  replace hsz : T.size = 22 := hsz
  revert h_0 h_1 h_6
  revert hsz
  revert T
  refine arr22 ?_
  intro e0 e1 e2 e3 e4 e5 e6 e7 e8 e9 e10 e11 e12 e13 e14 e15 e16 e17 e18 e19 e20 e21 h_0 h_1 h_6
  have h_0 : e0 = .nilIface := h_0
  subst h_0
  have h_1 : e1 = .iface 124 (.pointer (some a0)) := h_1
  subst h_1
  have h_6 : e6 = .nilIface := h_6
  subst h_6
  refine Gw.fop (oo := sr1.getD 1 default) (v := .bool true) rfl rfl (bkn _) (eqlnn_op (w := u1) (o := sr1.getD 1 default) (x := .tmp 6) rfl rfl).1 (eqlnn_op (w := u1) (o := sr1.getD 1 default) (x := .tmp 6) rfl rfl).2 ?_
  refine (?_ : ∀ A : Act, (A.tmps.size = 22 ∧ A.defers = [] ∧ A.tmps.getD 0 undef = .nilIface ∧ A.tmps.getD 1 undef = .iface 124 (.pointer (some a0)) ∧ A.tmps.getD 6 undef = .nilIface ∧ A.tmps.getD 7 undef = .bool true) → Gw _ _ _ _ _ _ (G ((base 31).at A _) _)) _ ⟨rfl, rfl, rfl, rfl, rfl, rfl⟩
  intro A hA
  obtain ⟨T, ds⟩ := A
  obtain ⟨hsz, hds, h_0, h_1, h_6, h_7⟩ := hA
  obtain rfl : ds = [] := hds
  try clear hds
  replace hsz : T.size = 22 := hsz
  revert h_0 h_1 h_6 h_7
  revert hsz
  revert T
  refine arr22 ?_
  intro e0 e1 e2 e3 e4 e5 e6 e7 e8 e9 e10 e11 e12 e13 e14 e15 e16 e17 e18 e19 e20 e21 h_0 h_1 h_6 h_7
  have h_0 : e0 = .nilIface := h_0
  subst h_0
  have h_1 : e1 = .iface 124 (.pointer (some a0)) := h_1
  subst h_1
  have h_6 : e6 = .nilIface := h_6
  subst h_6
  have h_7 : e7 = .bool true := h_7
  subst h_7
  refine Gw.mv (oo := sr1.getD 2 default) rfl (.inl rfl) rfl (bkn _) ?_
  refine Gw.skip (oo := sr1.getD 3 default) rfl rfl ?_
  refine Gw.skip (oo := sr1.getD 4 default) rfl rfl ?_
  refine (?_ : ∀ A : Act, (A.tmps.size = 22 ∧ A.defers = [] ∧ A.tmps.getD 0 undef = .nilIface ∧ A.tmps.getD 1 undef = .iface 124 (.pointer (some a0)) ∧ A.tmps.getD 8 undef = .bool true) → Gw _ _ _ _ _ _ (G ((base 31).at A _) _)) _ ⟨rfl, rfl, rfl, rfl, rfl⟩
  intro A hA
  obtain ⟨T, ds⟩ := A
  obtain ⟨hsz, hds, h_0, h_1, h_8⟩ := hA
  obtain rfl : ds = [] := hds
  try clear hds
  replace hsz : T.size = 22 := hsz
  revert h_0 h_1 h_8
  revert hsz
  revert T
  refine arr22 ?_
  intro e0 e1 e2 e3 e4 e5 e6 e7 e8 e9 e10 e11 e12 e13 e14 e15 e16 e17 e18 e19 e20 e21 h_0 h_1 h_8
  have h_0 : e0 = .nilIface := h_0
  subst h_0
  have h_1 : e1 = .iface 124 (.pointer (some a0)) := h_1
  subst h_1
  have h_8 : e8 = .bool true := h_8
  subst h_8
  refine Gw.oprest CC RR (f := 31) (N := fun a' u' => (a'.tmps.size = 22 ∧ a'.defers = [] ∧ a'.tmps.getD 0 undef = .nilIface ∧ a'.tmps.getD 1 undef = .iface 124 (.pointer (some a0)) ∧ a'.tmps.getD 11 undef = .bool true)) rfl (kn_nil rfl) rfl (by kernel_rfl) (fun _ _ _ _ h => h) (fun t d => ?_) (fun A u2 hg hA => ?_)
  · generalize World.re u1 t d = v
    refine wpOps_rest 5 rfl ?_
    simp only [sr1, bEs, cl, cr, ct, co, cth, cel, Tryd.f31, Option.getD_some, List.drop_succ_cons, List.drop_zero]
    go_wp2_with fail
    exact ⟨⟨rfl, rfl, rfl, rfl, rfl⟩, Ext.refl _ _⟩
  obtain ⟨T, ds⟩ := A
  obtain ⟨hsz, hds, h_0, h_1, h_11⟩ := hA
  obtain rfl : ds = [] := hds
  try clear hds
  replace hsz : T.size = 22 := hsz
  revert h_0 h_1 h_11
  revert hsz
  revert T
  refine arr22 ?_
  intro e0 e1 e2 e3 e4 e5 e6 e7 e8 e9 e10 e11 e12 e13 e14 e15 e16 e17 e18 e19 e20 e21 h_0 h_1 h_11
  have h_0 : e0 = .nilIface := h_0
  subst h_0
  have h_1 : e1 = .iface 124 (.pointer (some a0)) := h_1
  subst h_1
  have h_11 : e11 = .bool true := h_11
  subst h_11
  replace E : Errs u2 a0 a1 := E.gx hg
  clear hg
  refine Gw.ctl rfl (fun w => stepG_cond (t := true) rfl) ?_
  refine Gw.ctl rfl (fun w => stepG_seq (x := .region 2 sr2 false) (y := .ret)) ?_
  refine Gw.ctl rfl (fun w => stepG_region) ?_
  rw [show List.range sr2.size = [0, 1, 2, 3] from rfl]
  refine Gw.mv (oo := sr2.getD 0 default) rfl (.inl rfl) rfl (bkn _) ?_
  refine Gw.mv (oo := sr2.getD 1 default) rfl (.inl rfl) rfl (bkn _) ?_
  refine (?_ : ∀ A : Act, (A.tmps.size = 22 ∧ A.defers = [] ∧ A.tmps.getD 0 undef = .nilIface ∧ A.tmps.getD 1 undef = .iface 124 (.pointer (some a0)) ∧ A.tmps.getD 12 undef = .nilIface ∧ A.tmps.getD 13 undef = .iface 124 (.pointer (some a0))) → Gw _ _ _ _ _ _ (G ((base 31).at A _) _)) _ ⟨rfl, rfl, rfl, rfl, rfl, rfl⟩
  intro A hA
  obtain ⟨T, ds⟩ := A
  obtain ⟨hsz, hds, h_0, h_1, h_12, h_13⟩ := hA
  obtain rfl : ds = [] := hds
  try clear hds
  replace hsz : T.size = 22 := hsz
  revert h_0 h_1 h_12 h_13
  revert hsz
  revert T
  refine arr22 ?_
  intro e0 e1 e2 e3 e4 e5 e6 e7 e8 e9 e10 e11 e12 e13 e14 e15 e16 e17 e18 e19 e20 e21 h_0 h_1 h_12 h_13
  have h_0 : e0 = .nilIface := h_0
  subst h_0
  have h_1 : e1 = .iface 124 (.pointer (some a0)) := h_1
  subst h_1
  have h_12 : e12 = .nilIface := h_12
  subst h_12
  have h_13 : e13 = .iface 124 (.pointer (some a0)) := h_13
  subst h_13
  refine Gw.fop (oo := sr2.getD 2 default) (v := .bool false) rfl rfl (bkn _) (eqlni_op (w := u2) (o := sr2.getD 2 default) (x := .tmp 12) (y := .tmp 13) rfl rfl rfl).1 (eqlni_op (w := u2) (o := sr2.getD 2 default) (x := .tmp 12) (y := .tmp 13) rfl rfl rfl).2 ?_
  refine (?_ : ∀ A : Act, (A.tmps.size = 22 ∧ A.defers = [] ∧ A.tmps.getD 0 undef = .nilIface ∧ A.tmps.getD 1 undef = .iface 124 (.pointer (some a0)) ∧ A.tmps.getD 14 undef = .bool false) → Gw _ _ _ _ _ _ (G ((base 31).at A _) _)) _ ⟨rfl, rfl, rfl, rfl, rfl⟩
  intro A hA
  obtain ⟨T, ds⟩ := A
  obtain ⟨hsz, hds, h_0, h_1, h_14⟩ := hA
  obtain rfl : ds = [] := hds
  try clear hds
  replace hsz : T.size = 22 := hsz
  revert h_0 h_1 h_14
  revert hsz
  revert T
  refine arr22 ?_
  intro e0 e1 e2 e3 e4 e5 e6 e7 e8 e9 e10 e11 e12 e13 e14 e15 e16 e17 e18 e19 e20 e21 h_0 h_1 h_14
  have h_0 : e0 = .nilIface := h_0
  subst h_0
  have h_1 : e1 = .iface 124 (.pointer (some a0)) := h_1
  subst h_1
  have h_14 : e14 = .bool false := h_14
  subst h_14
  refine Gw.mv (oo := sr2.getD 3 default) rfl (.inr rfl) rfl (bkn _) ?_
  refine Gw.ctl rfl (fun w => stepG_region_end) ?_
  refine (?_ : ∀ A : Act, (A.tmps.size = 22 ∧ A.defers = [] ∧ A.tmps.getD 4 undef = .bool false) → Gw _ _ _ _ _ _ (G ((base 31).at A _) _)) _ ⟨rfl, rfl, rfl⟩
  intro A hA
  obtain ⟨T, ds⟩ := A
  obtain ⟨hsz, hds, h_4⟩ := hA
  obtain rfl : ds = [] := hds
  try clear hds
  replace hsz : T.size = 22 := hsz
  revert h_4
  revert hsz
  revert T
  refine arr22 ?_
  intro e0 e1 e2 e3 e4 e5 e6 e7 e8 e9 e10 e11 e12 e13 e14 e15 e16 e17 e18 e19 e20 e21 h_4
  have h_4 : e4 = .bool false := h_4
  subst h_4
  refine Gw.ctl rfl (fun w => stepG_ret') ?_
  exact leave rfl rfl

set_option maxRecDepth 20000 in
set_option maxHeartbeats 4000000 in
theorem Is_same_g {a0 a1 : Addr} {u : World} (E : Errs u a0 a1) : GCalls Tryd.prog 31 #[.iface 124 (.pointer (some a0)), .iface 124 (.pointer (some a0))] u fun v u' => v = .bool true := by
  refine GCalls.of (cd := bEs) Tryd.func31 rfl fun X c cs hXl => ?_
  have leave : ∀ {X' : Nat → Prop} {u1 : World} {a' : Act} {todo : List Item}, a'.defers = [] → a'.tmps.getD 4 undef = .bool true → Gw Tryd.prog X u (fun X' g' w' => ∃ v u', g' = G (c.finish v) cs ∧ Wd X u X' u' w' ∧ v = .bool true) X' u1 (G { (base 31).at a' todo with mode := .returning } (c :: cs)) := fun hd h2 =>
    Gw.leave (v := .bool true) Tryd.func31 hd (by rw [← h2]; simp [results, Tryd.f31]) (Gw.done (Post := fun v u' => v = .bool true) rfl)
  refine Gw.ctl rfl (fun w => stepG_seq (x := cl (ct 0 bEs)) (y := (ct 1 bEs))) ?_
  refine Gw.seg CC RR (f := 31) (N := fun a' u' => (a'.tmps.size = 22 ∧ a'.defers = [] ∧ a'.tmps.getD 0 undef = .iface 124 (.pointer (some a0)) ∧ a'.tmps.getD 1 undef = .iface 124 (.pointer (some a0)))) (Rt := fun a' u' => False) rfl (kn_nil rfl) rfl (by kernel_rfl) (fun _ _ _ _ h => h) (fun _ _ _ _ h => h) (fun t d => ?_) (fun A u1 hg h => ?_) fun _ _ _ _ _ h => h.elim
  · generalize World.re u t d = v
    simp only [bEs, cl, cr, ct, co, Tryd.f31, Option.getD_some, List.size_toArray, List.length_cons, List.length_nil, Nat.reduceAdd, Nat.reduceSub, Array.replicate_succ, Array.replicate_zero, List.push_toArray, List.append_toArray, List.nil_append, List.cons_append]
    go_wp2_with fail
    exact ⟨⟨rfl, rfl, rfl, rfl⟩, Ext.refl _ _⟩
  have hA := h
  clear h
  obtain ⟨T, ds⟩ := A
  obtain ⟨hsz, hds, h_0, h_1⟩ := hA
  obtain rfl : ds = [] := hds
  try clear hds
  replace hsz : T.size = 22 := hsz
  revert h_0 h_1
  revert hsz
  revert T
  refine arr22 ?_
  intro e0 e1 e2 e3 e4 e5 e6 e7 e8 e9 e10 e11 e12 e13 e14 e15 e16 e17 e18 e19 e20 e21 h_0 h_1
  have h_0 : e0 = .iface 124 (.pointer (some a0)) := h_0
  subst h_0
  have h_1 : e1 = .iface 124 (.pointer (some a0)) := h_1
  subst h_1
  replace E : Errs u1 a0 a1 := E.gx hg
  clear hg
  rw [es1]
  refine Gw.ctl rfl (fun w => stepG_seq) ?_
  refine Gw.ctl rfl (fun w => stepG_seq) ?_
  refine Gw.ctl rfl (fun w => stepG_region) ?_
  rw [show List.range sr1.size = [0, 1, 2, 3, 4, 5] from rfl]
  refine Gw.mv (oo := sr1.getD 0 default) rfl (.inl rfl) rfl (bkn _) ?_
  refine (?_ : ∀ A : Act, (A.tmps.size = 22 ∧ A.defers = [] ∧ A.tmps.getD 0 undef = .iface 124 (.pointer (some a0)) ∧ A.tmps.getD 1 undef = .iface 124 (.pointer (some a0)) ∧ A.tmps.getD 6 undef = .iface 124 (.pointer (some a0))) → Gw _ _ _ _ _ _ (G ((base 31).at A _) _)) _ ⟨rfl, rfl, rfl, rfl, rfl⟩
  intro A hA
  obtain ⟨T, ds⟩ := A
  obtain ⟨hsz, hds, h_0, h_1, h_6⟩ := hA
  obtain rfl : ds = [] := hds
  try clear hds
  replace hsz : T.size = 22 := hsz
  revert h_0 h_1 h_6
  revert hsz
  revert T
  refine arr22 ?_
  intro e0 e1 e2 e3 e4 e5 e6 e7 e8 e9 e10 e11 e12 e13 e14 e15 e16 e17 e18 e19 e20 e21 h_0 h_1 h_6
  have h_0 : e0 = .iface 124 (.pointer (some a0)) := h_0
  subst h_0
  have h_1 : e1 = .iface 124 (.pointer (some a0)) := h_1
  subst h_1
  have h_6 : e6 = .iface 124 (.pointer (some a0)) := h_6
  subst h_6
  refine Gw.fop (oo := sr1.getD 1 default) (v := .bool false) rfl rfl (bkn _) (eqlnil_op (w := u1) (o := sr1.getD 1 default) (x := .tmp 6) rfl rfl).1 (eqlnil_op (w := u1) (o := sr1.getD 1 default) (x := .tmp 6) rfl rfl).2 ?_
  refine (?_ : ∀ A : Act, (A.tmps.size = 22 ∧ A.defers = [] ∧ A.tmps.getD 0 undef = .iface 124 (.pointer (some a0)) ∧ A.tmps.getD 1 undef = .iface 124 (.pointer (some a0)) ∧ A.tmps.getD 6 undef = .iface 124 (.pointer (some a0)) ∧ A.tmps.getD 7 undef = .bool false) → Gw _ _ _ _ _ _ (G ((base 31).at A _) _)) _ ⟨rfl, rfl, rfl, rfl, rfl, rfl⟩
  intro A hA
  obtain ⟨T, ds⟩ := A
  obtain ⟨hsz, hds, h_0, h_1, h_6, h_7⟩ := hA
  obtain rfl : ds = [] := hds
  try clear hds
  replace hsz : T.size = 22 := hsz
  revert h_0 h_1 h_6 h_7
  revert hsz
  revert T
  refine arr22 ?_
  intro e0 e1 e2 e3 e4 e5 e6 e7 e8 e9 e10 e11 e12 e13 e14 e15 e16 e17 e18 e19 e20 e21 h_0 h_1 h_6 h_7
  have h_0 : e0 = .iface 124 (.pointer (some a0)) := h_0
  subst h_0
  have h_1 : e1 = .iface 124 (.pointer (some a0)) := h_1
  subst h_1
  have h_6 : e6 = .iface 124 (.pointer (some a0)) := h_6
  subst h_6
  have h_7 : e7 = .bool false := h_7
  subst h_7
  refine Gw.mv (oo := sr1.getD 2 default) rfl (.inl rfl) rfl (bkn _) ?_
  refine Gw.mv (oo := sr1.getD 3 default) rfl (.inl rfl) rfl (bkn _) ?_
  refine (?_ : ∀ A : Act, (A.tmps.size = 22 ∧ A.defers = [] ∧ A.tmps.getD 0 undef = .iface 124 (.pointer (some a0)) ∧ A.tmps.getD 1 undef = .iface 124 (.pointer (some a0)) ∧ A.tmps.getD 8 undef = .bool false ∧ A.tmps.getD 9 undef = .iface 124 (.pointer (some a0))) → Gw _ _ _ _ _ _ (G ((base 31).at A _) _)) _ ⟨rfl, rfl, rfl, rfl, rfl, rfl⟩
  intro A hA
  obtain ⟨T, ds⟩ := A
  obtain ⟨hsz, hds, h_0, h_1, h_8, h_9⟩ := hA
  obtain rfl : ds = [] := hds
  try clear hds
  replace hsz : T.size = 22 := hsz
  revert h_0 h_1 h_8 h_9
  revert hsz
  revert T
  refine arr22 ?_
  intro e0 e1 e2 e3 e4 e5 e6 e7 e8 e9 e10 e11 e12 e13 e14 e15 e16 e17 e18 e19 e20 e21 h_0 h_1 h_8 h_9
  have h_0 : e0 = .iface 124 (.pointer (some a0)) := h_0
  subst h_0
  have h_1 : e1 = .iface 124 (.pointer (some a0)) := h_1
  subst h_1
  have h_8 : e8 = .bool false := h_8
  subst h_8
  have h_9 : e9 = .iface 124 (.pointer (some a0)) := h_9
  subst h_9
  refine Gw.fop (oo := sr1.getD 4 default) (v := .bool false) rfl rfl (bkn _) (eqlnil_op (w := u1) (o := sr1.getD 4 default) (x := .tmp 9) rfl rfl).1 (eqlnil_op (w := u1) (o := sr1.getD 4 default) (x := .tmp 9) rfl rfl).2 ?_
  refine (?_ : ∀ A : Act, (A.tmps.size = 22 ∧ A.defers = [] ∧ A.tmps.getD 0 undef = .iface 124 (.pointer (some a0)) ∧ A.tmps.getD 1 undef = .iface 124 (.pointer (some a0)) ∧ A.tmps.getD 8 undef = .bool false ∧ A.tmps.getD 10 undef = .bool false) → Gw _ _ _ _ _ _ (G ((base 31).at A _) _)) _ ⟨rfl, rfl, rfl, rfl, rfl, rfl⟩
  intro A hA
  obtain ⟨T, ds⟩ := A
  obtain ⟨hsz, hds, h_0, h_1, h_8, h_10⟩ := hA
  obtain rfl : ds = [] := hds
  try clear hds
  replace hsz : T.size = 22 := hsz
  revert h_0 h_1 h_8 h_10
  revert hsz
  revert T
  refine arr22 ?_
  intro e0 e1 e2 e3 e4 e5 e6 e7 e8 e9 e10 e11 e12 e13 e14 e15 e16 e17 e18 e19 e20 e21 h_0 h_1 h_8 h_10
  have h_0 : e0 = .iface 124 (.pointer (some a0)) := h_0
  subst h_0
  have h_1 : e1 = .iface 124 (.pointer (some a0)) := h_1
  subst h_1
  have h_8 : e8 = .bool false := h_8
  subst h_8
  have h_10 : e10 = .bool false := h_10
  subst h_10
  refine Gw.oprest CC RR (f := 31) (N := fun a' u' => (a'.tmps.size = 22 ∧ a'.defers = [] ∧ a'.tmps.getD 0 undef = .iface 124 (.pointer (some a0)) ∧ a'.tmps.getD 1 undef = .iface 124 (.pointer (some a0)) ∧ a'.tmps.getD 11 undef = .bool false)) rfl (kn_nil rfl) rfl (by kernel_rfl) (fun _ _ _ _ h => h) (fun t d => ?_) (fun A u2 hg hA => ?_)
  · generalize World.re u1 t d = v
    refine wpOps_rest 5 rfl ?_
    simp only [sr1, bEs, cl, cr, ct, co, cth, cel, Tryd.f31, Option.getD_some, List.drop_succ_cons, List.drop_zero]
    go_wp2_with fail
    exact ⟨⟨rfl, rfl, rfl, rfl, rfl⟩, Ext.refl _ _⟩
  obtain ⟨T, ds⟩ := A
  obtain ⟨hsz, hds, h_0, h_1, h_11⟩ := hA
  obtain rfl : ds = [] := hds
  try clear hds
  replace hsz : T.size = 22 := hsz
  revert h_0 h_1 h_11
  revert hsz
  revert T
  refine arr22 ?_
  intro e0 e1 e2 e3 e4 e5 e6 e7 e8 e9 e10 e11 e12 e13 e14 e15 e16 e17 e18 e19 e20 e21 h_0 h_1 h_11
  have h_0 : e0 = .iface 124 (.pointer (some a0)) := h_0
  subst h_0
  have h_1 : e1 = .iface 124 (.pointer (some a0)) := h_1
  subst h_1
  have h_11 : e11 = .bool false := h_11
  subst h_11
  replace E : Errs u2 a0 a1 := E.gx hg
  clear hg
  refine Gw.ctl rfl (fun w => stepG_cond (t := false) rfl) ?_
  refine Gw.ctl rfl (fun w => stepG_skip) ?_
  refine Gw.ctl rfl (fun w => stepG_seq) ?_
  refine Gw.ctl rfl (fun w => stepG_region) ?_
  rw [show List.range sr3.size = [0, 1, 2, 3] from rfl]
  refine Gw.mv (oo := sr3.getD 0 default) rfl (.inl rfl) rfl (bkn _) ?_
  refine (?_ : ∀ A : Act, (A.tmps.size = 22 ∧ A.defers = [] ∧ A.tmps.getD 0 undef = .iface 124 (.pointer (some a0)) ∧ A.tmps.getD 1 undef = .iface 124 (.pointer (some a0)) ∧ A.tmps.getD 15 undef = .iface 124 (.pointer (some a0))) → Gw _ _ _ _ _ _ (G ((base 31).at A _) _)) _ ⟨rfl, rfl, rfl, rfl, rfl⟩
  intro A hA
  obtain ⟨T, ds⟩ := A
  obtain ⟨hsz, hds, h_0, h_1, h_15⟩ := hA
  obtain rfl : ds = [] := hds
  try clear hds
  replace hsz : T.size = 22 := hsz
  revert h_0 h_1 h_15
  revert hsz
  revert T
  refine arr22 ?_
  intro e0 e1 e2 e3 e4 e5 e6 e7 e8 e9 e10 e11 e12 e13 e14 e15 e16 e17 e18 e19 e20 e21 h_0 h_1 h_15
  have h_0 : e0 = .iface 124 (.pointer (some a0)) := h_0
  subst h_0
  have h_1 : e1 = .iface 124 (.pointer (some a0)) := h_1
  subst h_1
  have h_15 : e15 = .iface 124 (.pointer (some a0)) := h_15
  subst h_15
  refine Gw.valU (oo := sr3.getD 1 default) (v := .iface 108 (.agg #[.pointer (some ⟨2, 124, none⟩)])) rfl rfl (bkn _) (fun w hw => (fun h => ⟨h.1, by rw [h.2]; exact good_extern⟩) (typeOf_op (w := w) (o := sr3.getD 1 default) (x := .tmp 15) rfl rfl)) ?_
  refine (?_ : ∀ A : Act, (A.tmps.size = 22 ∧ A.defers = [] ∧ A.tmps.getD 0 undef = .iface 124 (.pointer (some a0)) ∧ A.tmps.getD 1 undef = .iface 124 (.pointer (some a0)) ∧ A.tmps.getD 16 undef = .iface 108 (.agg #[.pointer (some ⟨2, 124, none⟩)])) → Gw _ _ _ _ _ _ (G ((base 31).at A _) _)) _ ⟨rfl, rfl, rfl, rfl, rfl⟩
  intro A hA
  obtain ⟨T, ds⟩ := A
  obtain ⟨hsz, hds, h_0, h_1, h_16⟩ := hA
  obtain rfl : ds = [] := hds
  try clear hds
  replace hsz : T.size = 22 := hsz
  revert h_0 h_1 h_16
  revert hsz
  revert T
  refine arr22 ?_
  intro e0 e1 e2 e3 e4 e5 e6 e7 e8 e9 e10 e11 e12 e13 e14 e15 e16 e17 e18 e19 e20 e21 h_0 h_1 h_16
  have h_0 : e0 = .iface 124 (.pointer (some a0)) := h_0
  subst h_0
  have h_1 : e1 = .iface 124 (.pointer (some a0)) := h_1
  subst h_1
  have h_16 : e16 = .iface 108 (.agg #[.pointer (some ⟨2, 124, none⟩)]) := h_16
  subst h_16
  refine Gw.valU (oo := sr3.getD 2 default) (v := .bool true) rfl rfl (bkn _) (fun w hw => (fun h => ⟨h.1, by rw [h.2]; exact good_extern⟩) (comp_op (w := w) (o := sr3.getD 2 default) (x := .tmp 16) rfl rfl)) ?_
  refine (?_ : ∀ A : Act, (A.tmps.size = 22 ∧ A.defers = [] ∧ A.tmps.getD 0 undef = .iface 124 (.pointer (some a0)) ∧ A.tmps.getD 1 undef = .iface 124 (.pointer (some a0)) ∧ A.tmps.getD 17 undef = .bool true) → Gw _ _ _ _ _ _ (G ((base 31).at A _) _)) _ ⟨rfl, rfl, rfl, rfl, rfl⟩
  intro A hA
  obtain ⟨T, ds⟩ := A
  obtain ⟨hsz, hds, h_0, h_1, h_17⟩ := hA
  obtain rfl : ds = [] := hds
  try clear hds
  replace hsz : T.size = 22 := hsz
  revert h_0 h_1 h_17
  revert hsz
  revert T
  refine arr22 ?_
  intro e0 e1 e2 e3 e4 e5 e6 e7 e8 e9 e10 e11 e12 e13 e14 e15 e16 e17 e18 e19 e20 e21 h_0 h_1 h_17
  have h_0 : e0 = .iface 124 (.pointer (some a0)) := h_0
  subst h_0
  have h_1 : e1 = .iface 124 (.pointer (some a0)) := h_1
  subst h_1
  have h_17 : e17 = .bool true := h_17
  subst h_17
  refine Gw.mv (oo := sr3.getD 3 default) rfl (.inr rfl) rfl (bkn _) ?_
  refine Gw.ctl rfl (fun w => stepG_region_end) ?_
  refine (?_ : ∀ A : Act, (A.tmps.size = 22 ∧ A.defers = [] ∧ A.tmps.getD 0 undef = .iface 124 (.pointer (some a0)) ∧ A.tmps.getD 1 undef = .iface 124 (.pointer (some a0)) ∧ A.tmps.getD 5 undef = .bool true) → Gw _ _ _ _ _ _ (G ((base 31).at A _) _)) _ ⟨rfl, rfl, rfl, rfl, rfl⟩
  intro A hA
  obtain ⟨T, ds⟩ := A
  obtain ⟨hsz, hds, h_0, h_1, h_5⟩ := hA
  obtain rfl : ds = [] := hds
  try clear hds
  replace hsz : T.size = 22 := hsz
  revert h_0 h_1 h_5
  revert hsz
  revert T
  refine arr22 ?_
  intro e0 e1 e2 e3 e4 e5 e6 e7 e8 e9 e10 e11 e12 e13 e14 e15 e16 e17 e18 e19 e20 e21 h_0 h_1 h_5
  have h_0 : e0 = .iface 124 (.pointer (some a0)) := h_0
  subst h_0
  have h_1 : e1 = .iface 124 (.pointer (some a0)) := h_1
  subst h_1
  have h_5 : e5 = .bool true := h_5
  subst h_5
  refine Gw.ctl rfl (fun w => stepG_seq) ?_
  refine Gw.ctl rfl (fun w => stepG_region) ?_
  rw [show List.range sr4.size = [0, 1, 2, 3, 4] from rfl]
  refine Gw.mv (oo := sr4.getD 0 default) rfl (.inl rfl) rfl (bkn _) ?_
  refine Gw.mv (oo := sr4.getD 1 default) rfl (.inl rfl) rfl (bkn _) ?_
  refine Gw.mv (oo := sr4.getD 2 default) rfl (.inl rfl) rfl (bkn _) ?_
  refine (?_ : ∀ A : Act, (A.tmps.size = 22 ∧ A.defers = [] ∧ A.tmps.getD 18 undef = .iface 124 (.pointer (some a0)) ∧ A.tmps.getD 19 undef = .iface 124 (.pointer (some a0)) ∧ A.tmps.getD 20 undef = .bool true) → Gw _ _ _ _ _ _ (G ((base 31).at A _) _)) _ ⟨rfl, rfl, rfl, rfl, rfl⟩
  intro A hA
  obtain ⟨T, ds⟩ := A
  obtain ⟨hsz, hds, h_18, h_19, h_20⟩ := hA
  obtain rfl : ds = [] := hds
  try clear hds
  replace hsz : T.size = 22 := hsz
  revert h_18 h_19 h_20
  revert hsz
  revert T
  refine arr22 ?_
  intro e0 e1 e2 e3 e4 e5 e6 e7 e8 e9 e10 e11 e12 e13 e14 e15 e16 e17 e18 e19 e20 e21 h_18 h_19 h_20
  have h_18 : e18 = .iface 124 (.pointer (some a0)) := h_18
  subst h_18
  have h_19 : e19 = .iface 124 (.pointer (some a0)) := h_19
  subst h_19
  have h_20 : e20 = .bool true := h_20
  subst h_20
  refine Gw.gcall (oo := sr4.getD 3 default) (g := 46) (args := #[.tmp 18, .tmp 19, .tmp 20]) rfl rfl (bkn _) rfl Tryd.func46 nmIs rfl (vals := #[.iface 124 (.pointer (some a0)), .iface 124 (.pointer (some a0)), .bool true]) (by simp [Act.eval]) (is_same_g E) fun X4 v u9 hg hv => ?_
  subst hv
  refine Gw.mv (oo := sr4.getD 4 default) rfl (.inr rfl) rfl (bkn _) ?_
  refine Gw.ctl rfl (fun w => stepG_region_end) ?_
  refine (?_ : ∀ A : Act, (A.tmps.size = 22 ∧ A.defers = [] ∧ A.tmps.getD 4 undef = .bool true) → Gw _ _ _ _ _ _ (G ((base 31).at A _) _)) _ ⟨rfl, rfl, rfl⟩
  intro A hA
  obtain ⟨T, ds⟩ := A
  obtain ⟨hsz, hds, h_4⟩ := hA
  obtain rfl : ds = [] := hds
  try clear hds
  replace hsz : T.size = 22 := hsz
  revert h_4
  revert hsz
  revert T
  refine arr22 ?_
  intro e0 e1 e2 e3 e4 e5 e6 e7 e8 e9 e10 e11 e12 e13 e14 e15 e16 e17 e18 e19 e20 e21 h_4
  have h_4 : e4 = .bool true := h_4
  subst h_4
  refine Gw.ctl rfl (fun w => stepG_ret') ?_
  exact leave rfl rfl

set_option maxRecDepth 20000 in
set_option maxHeartbeats 4000000 in
theorem Is_other_g {a0 a1 : Addr} {u : World} (E : Errs u a0 a1) : GCalls Tryd.prog 31 #[.iface 124 (.pointer (some a1)), .iface 124 (.pointer (some a0))] u fun v u' => v = .bool false := by
  refine GCalls.of (cd := bEs) Tryd.func31 rfl fun X c cs hXl => ?_
  have leave : ∀ {X' : Nat → Prop} {u1 : World} {a' : Act} {todo : List Item}, a'.defers = [] → a'.tmps.getD 4 undef = .bool false → Gw Tryd.prog X u (fun X' g' w' => ∃ v u', g' = G (c.finish v) cs ∧ Wd X u X' u' w' ∧ v = .bool false) X' u1 (G { (base 31).at a' todo with mode := .returning } (c :: cs)) := fun hd h2 =>
    Gw.leave (v := .bool false) Tryd.func31 hd (by rw [← h2]; simp [results, Tryd.f31]) (Gw.done (Post := fun v u' => v = .bool false) rfl)
  refine Gw.ctl rfl (fun w => stepG_seq (x := cl (ct 0 bEs)) (y := (ct 1 bEs))) ?_
  refine Gw.seg CC RR (f := 31) (N := fun a' u' => (a'.tmps.size = 22 ∧ a'.defers = [] ∧ a'.tmps.getD 0 undef = .iface 124 (.pointer (some a1)) ∧ a'.tmps.getD 1 undef = .iface 124 (.pointer (some a0)))) (Rt := fun a' u' => False) rfl (kn_nil rfl) rfl (by kernel_rfl) (fun _ _ _ _ h => h) (fun _ _ _ _ h => h) (fun t d => ?_) (fun A u1 hg h => ?_) fun _ _ _ _ _ h => h.elim
  · generalize World.re u t d = v
    simp only [bEs, cl, cr, ct, co, Tryd.f31, Option.getD_some, List.size_toArray, List.length_cons, List.length_nil, Nat.reduceAdd, Nat.reduceSub, Array.replicate_succ, Array.replicate_zero, List.push_toArray, List.append_toArray, List.nil_append, List.cons_append]
    go_wp2_with fail
    exact ⟨⟨rfl, rfl, rfl, rfl⟩, Ext.refl _ _⟩
  have hA := h
  clear h
  obtain ⟨T, ds⟩ := A
  obtain ⟨hsz, hds, h_0, h_1⟩ := hA
  obtain rfl : ds = [] := hds
  try clear hds
  replace hsz : T.size = 22 := hsz
  revert h_0 h_1
  revert hsz
  revert T
  refine arr22 ?_
  intro e0 e1 e2 e3 e4 e5 e6 e7 e8 e9 e10 e11 e12 e13 e14 e15 e16 e17 e18 e19 e20 e21 h_0 h_1
  have h_0 : e0 = .iface 124 (.pointer (some a1)) := h_0
  subst h_0
  have h_1 : e1 = .iface 124 (.pointer (some a0)) := h_1
  subst h_1
  replace E : Errs u1 a0 a1 := E.gx hg
  clear hg
  rw [es1]
  refine Gw.ctl rfl (fun w => stepG_seq) ?_
  refine Gw.ctl rfl (fun w => stepG_seq) ?_
  refine Gw.ctl rfl (fun w => stepG_region) ?_
  rw [show List.range sr1.size = [0, 1, 2, 3, 4, 5] from rfl]
  refine Gw.mv (oo := sr1.getD 0 default) rfl (.inl rfl) rfl (bkn _) ?_
  refine (?_ : ∀ A : Act, (A.tmps.size = 22 ∧ A.defers = [] ∧ A.tmps.getD 0 undef = .iface 124 (.pointer (some a1)) ∧ A.tmps.getD 1 undef = .iface 124 (.pointer (some a0)) ∧ A.tmps.getD 6 undef = .iface 124 (.pointer (some a1))) → Gw _ _ _ _ _ _ (G ((base 31).at A _) _)) _ ⟨rfl, rfl, rfl, rfl, rfl⟩
  intro A hA
  obtain ⟨T, ds⟩ := A
  obtain ⟨hsz, hds, h_0, h_1, h_6⟩ := hA
  obtain rfl : ds = [] := hds
  try clear hds
  replace hsz : T.size = 22 := hsz
  revert h_0 h_1 h_6
  revert hsz
  revert T
  refine arr22 ?_
  intro e0 e1 e2 e3 e4 e5 e6 e7 e8 e9 e10 e11 e12 e13 e14 e15 e16 e17 e18 e19 e20 e21 h_0 h_1 h_6
  have h_0 : e0 = .iface 124 (.pointer (some a1)) := h_0
  subst h_0
  have h_1 : e1 = .iface 124 (.pointer (some a0)) := h_1
  subst h_1
  have h_6 : e6 = .iface 124 (.pointer (some a1)) := h_6
  subst h_6
  refine Gw.fop (oo := sr1.getD 1 default) (v := .bool false) rfl rfl (bkn _) (eqlnil_op (w := u1) (o := sr1.getD 1 default) (x := .tmp 6) rfl rfl).1 (eqlnil_op (w := u1) (o := sr1.getD 1 default) (x := .tmp 6) rfl rfl).2 ?_
  refine (?_ : ∀ A : Act, (A.tmps.size = 22 ∧ A.defers = [] ∧ A.tmps.getD 0 undef = .iface 124 (.pointer (some a1)) ∧ A.tmps.getD 1 undef = .iface 124 (.pointer (some a0)) ∧ A.tmps.getD 6 undef = .iface 124 (.pointer (some a1)) ∧ A.tmps.getD 7 undef = .bool false) → Gw _ _ _ _ _ _ (G ((base 31).at A _) _)) _ ⟨rfl, rfl, rfl, rfl, rfl, rfl⟩
  intro A hA
  obtain ⟨T, ds⟩ := A
  obtain ⟨hsz, hds, h_0, h_1, h_6, h_7⟩ := hA
  obtain rfl : ds = [] := hds
  try clear hds
  replace hsz : T.size = 22 := hsz
  revert h_0 h_1 h_6 h_7
  revert hsz
  revert T
  refine arr22 ?_
  intro e0 e1 e2 e3 e4 e5 e6 e7 e8 e9 e10 e11 e12 e13 e14 e15 e16 e17 e18 e19 e20 e21 h_0 h_1 h_6 h_7
  have h_0 : e0 = .iface 124 (.pointer (some a1)) := h_0
  subst h_0
  have h_1 : e1 = .iface 124 (.pointer (some a0)) := h_1
  subst h_1
  have h_6 : e6 = .iface 124 (.pointer (some a1)) := h_6
  subst h_6
  have h_7 : e7 = .bool false := h_7
  subst h_7
  refine Gw.mv (oo := sr1.getD 2 default) rfl (.inl rfl) rfl (bkn _) ?_
  refine Gw.mv (oo := sr1.getD 3 default) rfl (.inl rfl) rfl (bkn _) ?_
  refine (?_ : ∀ A : Act, (A.tmps.size = 22 ∧ A.defers = [] ∧ A.tmps.getD 0 undef = .iface 124 (.pointer (some a1)) ∧ A.tmps.getD 1 undef = .iface 124 (.pointer (some a0)) ∧ A.tmps.getD 8 undef = .bool false ∧ A.tmps.getD 9 undef = .iface 124 (.pointer (some a0))) → Gw _ _ _ _ _ _ (G ((base 31).at A _) _)) _ ⟨rfl, rfl, rfl, rfl, rfl, rfl⟩
  intro A hA
  obtain ⟨T, ds⟩ := A
  obtain ⟨hsz, hds, h_0, h_1, h_8, h_9⟩ := hA
  obtain rfl : ds = [] := hds
  try clear hds
  replace hsz : T.size = 22 := hsz
  revert h_0 h_1 h_8 h_9
  revert hsz
  revert T
  refine arr22 ?_
  intro e0 e1 e2 e3 e4 e5 e6 e7 e8 e9 e10 e11 e12 e13 e14 e15 e16 e17 e18 e19 e20 e21 h_0 h_1 h_8 h_9
  have h_0 : e0 = .iface 124 (.pointer (some a1)) := h_0
  subst h_0
  have h_1 : e1 = .iface 124 (.pointer (some a0)) := h_1
  subst h_1
  have h_8 : e8 = .bool false := h_8
  subst h_8
  have h_9 : e9 = .iface 124 (.pointer (some a0)) := h_9
  subst h_9
  refine Gw.fop (oo := sr1.getD 4 default) (v := .bool false) rfl rfl (bkn _) (eqlnil_op (w := u1) (o := sr1.getD 4 default) (x := .tmp 9) rfl rfl).1 (eqlnil_op (w := u1) (o := sr1.getD 4 default) (x := .tmp 9) rfl rfl).2 ?_
  refine (?_ : ∀ A : Act, (A.tmps.size = 22 ∧ A.defers = [] ∧ A.tmps.getD 0 undef = .iface 124 (.pointer (some a1)) ∧ A.tmps.getD 1 undef = .iface 124 (.pointer (some a0)) ∧ A.tmps.getD 8 undef = .bool false ∧ A.tmps.getD 10 undef = .bool false) → Gw _ _ _ _ _ _ (G ((base 31).at A _) _)) _ ⟨rfl, rfl, rfl, rfl, rfl, rfl⟩
  intro A hA
  obtain ⟨T, ds⟩ := A
  obtain ⟨hsz, hds, h_0, h_1, h_8, h_10⟩ := hA
  obtain rfl : ds = [] := hds
  try clear hds
  replace hsz : T.size = 22 := hsz
  revert h_0 h_1 h_8 h_10
  revert hsz
  revert T
  refine arr22 ?_
  intro e0 e1 e2 e3 e4 e5 e6 e7 e8 e9 e10 e11 e12 e13 e14 e15 e16 e17 e18 e19 e20 e21 h_0 h_1 h_8 h_10
  have h_0 : e0 = .iface 124 (.pointer (some a1)) := h_0
  subst h_0
  have h_1 : e1 = .iface 124 (.pointer (some a0)) := h_1
  subst h_1
  have h_8 : e8 = .bool false := h_8
  subst h_8
  have h_10 : e10 = .bool false := h_10
  subst h_10
  refine Gw.oprest CC RR (f := 31) (N := fun a' u' => (a'.tmps.size = 22 ∧ a'.defers = [] ∧ a'.tmps.getD 0 undef = .iface 124 (.pointer (some a1)) ∧ a'.tmps.getD 1 undef = .iface 124 (.pointer (some a0)) ∧ a'.tmps.getD 11 undef = .bool false)) rfl (kn_nil rfl) rfl (by kernel_rfl) (fun _ _ _ _ h => h) (fun t d => ?_) (fun A u2 hg hA => ?_)
  · generalize World.re u1 t d = v
    refine wpOps_rest 5 rfl ?_
    simp only [sr1, bEs, cl, cr, ct, co, cth, cel, Tryd.f31, Option.getD_some, List.drop_succ_cons, List.drop_zero]
    go_wp2_with fail
    exact ⟨⟨rfl, rfl, rfl, rfl, rfl⟩, Ext.refl _ _⟩
  obtain ⟨T, ds⟩ := A
  obtain ⟨hsz, hds, h_0, h_1, h_11⟩ := hA
  obtain rfl : ds = [] := hds
  try clear hds
  replace hsz : T.size = 22 := hsz
  revert h_0 h_1 h_11
  revert hsz
  revert T
  refine arr22 ?_
  intro e0 e1 e2 e3 e4 e5 e6 e7 e8 e9 e10 e11 e12 e13 e14 e15 e16 e17 e18 e19 e20 e21 h_0 h_1 h_11
  have h_0 : e0 = .iface 124 (.pointer (some a1)) := h_0
  subst h_0
  have h_1 : e1 = .iface 124 (.pointer (some a0)) := h_1
  subst h_1
  have h_11 : e11 = .bool false := h_11
  subst h_11
  replace E : Errs u2 a0 a1 := E.gx hg
  clear hg
  refine Gw.ctl rfl (fun w => stepG_cond (t := false) rfl) ?_
  refine Gw.ctl rfl (fun w => stepG_skip) ?_
  refine Gw.ctl rfl (fun w => stepG_seq) ?_
  refine Gw.ctl rfl (fun w => stepG_region) ?_
  rw [show List.range sr3.size = [0, 1, 2, 3] from rfl]
  refine Gw.mv (oo := sr3.getD 0 default) rfl (.inl rfl) rfl (bkn _) ?_
  refine (?_ : ∀ A : Act, (A.tmps.size = 22 ∧ A.defers = [] ∧ A.tmps.getD 0 undef = .iface 124 (.pointer (some a1)) ∧ A.tmps.getD 1 undef = .iface 124 (.pointer (some a0)) ∧ A.tmps.getD 15 undef = .iface 124 (.pointer (some a0))) → Gw _ _ _ _ _ _ (G ((base 31).at A _) _)) _ ⟨rfl, rfl, rfl, rfl, rfl⟩
  intro A hA
  obtain ⟨T, ds⟩ := A
  obtain ⟨hsz, hds, h_0, h_1, h_15⟩ := hA
  obtain rfl : ds = [] := hds
  try clear hds
  replace hsz : T.size = 22 := hsz
  revert h_0 h_1 h_15
  revert hsz
  revert T
  refine arr22 ?_
  intro e0 e1 e2 e3 e4 e5 e6 e7 e8 e9 e10 e11 e12 e13 e14 e15 e16 e17 e18 e19 e20 e21 h_0 h_1 h_15
  have h_0 : e0 = .iface 124 (.pointer (some a1)) := h_0
  subst h_0
  have h_1 : e1 = .iface 124 (.pointer (some a0)) := h_1
  subst h_1
  have h_15 : e15 = .iface 124 (.pointer (some a0)) := h_15
  subst h_15
  refine Gw.valU (oo := sr3.getD 1 default) (v := .iface 108 (.agg #[.pointer (some ⟨2, 124, none⟩)])) rfl rfl (bkn _) (fun w hw => (fun h => ⟨h.1, by rw [h.2]; exact good_extern⟩) (typeOf_op (w := w) (o := sr3.getD 1 default) (x := .tmp 15) rfl rfl)) ?_
  refine (?_ : ∀ A : Act, (A.tmps.size = 22 ∧ A.defers = [] ∧ A.tmps.getD 0 undef = .iface 124 (.pointer (some a1)) ∧ A.tmps.getD 1 undef = .iface 124 (.pointer (some a0)) ∧ A.tmps.getD 16 undef = .iface 108 (.agg #[.pointer (some ⟨2, 124, none⟩)])) → Gw _ _ _ _ _ _ (G ((base 31).at A _) _)) _ ⟨rfl, rfl, rfl, rfl, rfl⟩
  intro A hA
  obtain ⟨T, ds⟩ := A
  obtain ⟨hsz, hds, h_0, h_1, h_16⟩ := hA
  obtain rfl : ds = [] := hds
  try clear hds
  replace hsz : T.size = 22 := hsz
  revert h_0 h_1 h_16
  revert hsz
  revert T
  refine arr22 ?_
  intro e0 e1 e2 e3 e4 e5 e6 e7 e8 e9 e10 e11 e12 e13 e14 e15 e16 e17 e18 e19 e20 e21 h_0 h_1 h_16
  have h_0 : e0 = .iface 124 (.pointer (some a1)) := h_0
  subst h_0
  have h_1 : e1 = .iface 124 (.pointer (some a0)) := h_1
  subst h_1
  have h_16 : e16 = .iface 108 (.agg #[.pointer (some ⟨2, 124, none⟩)]) := h_16
  subst h_16
  refine Gw.valU (oo := sr3.getD 2 default) (v := .bool true) rfl rfl (bkn _) (fun w hw => (fun h => ⟨h.1, by rw [h.2]; exact good_extern⟩) (comp_op (w := w) (o := sr3.getD 2 default) (x := .tmp 16) rfl rfl)) ?_
  refine (?_ : ∀ A : Act, (A.tmps.size = 22 ∧ A.defers = [] ∧ A.tmps.getD 0 undef = .iface 124 (.pointer (some a1)) ∧ A.tmps.getD 1 undef = .iface 124 (.pointer (some a0)) ∧ A.tmps.getD 17 undef = .bool true) → Gw _ _ _ _ _ _ (G ((base 31).at A _) _)) _ ⟨rfl, rfl, rfl, rfl, rfl⟩
  intro A hA
  obtain ⟨T, ds⟩ := A
  obtain ⟨hsz, hds, h_0, h_1, h_17⟩ := hA
  obtain rfl : ds = [] := hds
  try clear hds
  replace hsz : T.size = 22 := hsz
  revert h_0 h_1 h_17
  revert hsz
  revert T
  refine arr22 ?_
  intro e0 e1 e2 e3 e4 e5 e6 e7 e8 e9 e10 e11 e12 e13 e14 e15 e16 e17 e18 e19 e20 e21 h_0 h_1 h_17
  have h_0 : e0 = .iface 124 (.pointer (some a1)) := h_0
  subst h_0
  have h_1 : e1 = .iface 124 (.pointer (some a0)) := h_1
  subst h_1
  have h_17 : e17 = .bool true := h_17
  subst h_17
  refine Gw.mv (oo := sr3.getD 3 default) rfl (.inr rfl) rfl (bkn _) ?_
  refine Gw.ctl rfl (fun w => stepG_region_end) ?_
  refine (?_ : ∀ A : Act, (A.tmps.size = 22 ∧ A.defers = [] ∧ A.tmps.getD 0 undef = .iface 124 (.pointer (some a1)) ∧ A.tmps.getD 1 undef = .iface 124 (.pointer (some a0)) ∧ A.tmps.getD 5 undef = .bool true) → Gw _ _ _ _ _ _ (G ((base 31).at A _) _)) _ ⟨rfl, rfl, rfl, rfl, rfl⟩
  intro A hA
  obtain ⟨T, ds⟩ := A
  obtain ⟨hsz, hds, h_0, h_1, h_5⟩ := hA
  obtain rfl : ds = [] := hds
  try clear hds
  replace hsz : T.size = 22 := hsz
  revert h_0 h_1 h_5
  revert hsz
  revert T
  refine arr22 ?_
  intro e0 e1 e2 e3 e4 e5 e6 e7 e8 e9 e10 e11 e12 e13 e14 e15 e16 e17 e18 e19 e20 e21 h_0 h_1 h_5
  have h_0 : e0 = .iface 124 (.pointer (some a1)) := h_0
  subst h_0
  have h_1 : e1 = .iface 124 (.pointer (some a0)) := h_1
  subst h_1
  have h_5 : e5 = .bool true := h_5
  subst h_5
  refine Gw.ctl rfl (fun w => stepG_seq) ?_
  refine Gw.ctl rfl (fun w => stepG_region) ?_
  rw [show List.range sr4.size = [0, 1, 2, 3, 4] from rfl]
  refine Gw.mv (oo := sr4.getD 0 default) rfl (.inl rfl) rfl (bkn _) ?_
  refine Gw.mv (oo := sr4.getD 1 default) rfl (.inl rfl) rfl (bkn _) ?_
  refine Gw.mv (oo := sr4.getD 2 default) rfl (.inl rfl) rfl (bkn _) ?_
  refine (?_ : ∀ A : Act, (A.tmps.size = 22 ∧ A.defers = [] ∧ A.tmps.getD 18 undef = .iface 124 (.pointer (some a1)) ∧ A.tmps.getD 19 undef = .iface 124 (.pointer (some a0)) ∧ A.tmps.getD 20 undef = .bool true) → Gw _ _ _ _ _ _ (G ((base 31).at A _) _)) _ ⟨rfl, rfl, rfl, rfl, rfl⟩
  intro A hA
  obtain ⟨T, ds⟩ := A
  obtain ⟨hsz, hds, h_18, h_19, h_20⟩ := hA
  obtain rfl : ds = [] := hds
  try clear hds
  replace hsz : T.size = 22 := hsz
  revert h_18 h_19 h_20
  revert hsz
  revert T
  refine arr22 ?_
  intro e0 e1 e2 e3 e4 e5 e6 e7 e8 e9 e10 e11 e12 e13 e14 e15 e16 e17 e18 e19 e20 e21 h_18 h_19 h_20
  have h_18 : e18 = .iface 124 (.pointer (some a1)) := h_18
  subst h_18
  have h_19 : e19 = .iface 124 (.pointer (some a0)) := h_19
  subst h_19
  have h_20 : e20 = .bool true := h_20
  subst h_20
  refine Gw.gcall (oo := sr4.getD 3 default) (g := 46) (args := #[.tmp 18, .tmp 19, .tmp 20]) rfl rfl (bkn _) rfl Tryd.func46 nmIs rfl (vals := #[.iface 124 (.pointer (some a1)), .iface 124 (.pointer (some a0)), .bool true]) (by simp [Act.eval]) (is_other_g E) fun X4 v u9 hg hv => ?_
  subst hv
  refine Gw.mv (oo := sr4.getD 4 default) rfl (.inr rfl) rfl (bkn _) ?_
  refine Gw.ctl rfl (fun w => stepG_region_end) ?_
  refine (?_ : ∀ A : Act, (A.tmps.size = 22 ∧ A.defers = [] ∧ A.tmps.getD 4 undef = .bool false) → Gw _ _ _ _ _ _ (G ((base 31).at A _) _)) _ ⟨rfl, rfl, rfl⟩
  intro A hA
  obtain ⟨T, ds⟩ := A
  obtain ⟨hsz, hds, h_4⟩ := hA
  obtain rfl : ds = [] := hds
  try clear hds
  replace hsz : T.size = 22 := hsz
  revert h_4
  revert hsz
  revert T
  refine arr22 ?_
  intro e0 e1 e2 e3 e4 e5 e6 e7 e8 e9 e10 e11 e12 e13 e14 e15 e16 e17 e18 e19 e20 e21 h_4
  have h_4 : e4 = .bool false := h_4
  subst h_4
  refine Gw.ctl rfl (fun w => stepG_ret') ?_
  exact leave rfl rfl

set_option maxRecDepth 20000 in
set_option maxHeartbeats 4000000 in
theorem complete_nil_g {a0 a1 : Addr} {u : World} (E : Errs u a0 a1) : GCalls Tryd.prog 18 #[.nilIface] u fun v u' => v = .bool true := by
  refine GCalls.of (cd := bCm) Tryd.func18 rfl fun X c cs hXl => ?_
  have leave : ∀ {X' : Nat → Prop} {u1 : World} {a' : Act} {todo : List Item}, a'.defers = [] → a'.tmps.getD 2 undef = .bool true → Gw Tryd.prog X u (fun X' g' w' => ∃ v u', g' = G (c.finish v) cs ∧ Wd X u X' u' w' ∧ v = .bool true) X' u1 (G { (base 18).at a' todo with mode := .returning } (c :: cs)) := fun hd h2 =>
    Gw.leave (v := .bool true) Tryd.func18 hd (by rw [← h2]; simp [results, Tryd.f18]) (Gw.done (Post := fun v u' => v = .bool true) rfl)
  refine Gw.ctl rfl (fun w => stepG_seq (x := cl (ct 0 bCm)) (y := (ct 1 bCm))) ?_
  refine Gw.seg CC RR (f := 18) (N := fun a' u' => (a'.tmps.size = 7 ∧ a'.defers = [] ∧ a'.tmps.getD 0 undef = .nilIface)) (Rt := fun a' u' => False) rfl (kn_nil rfl) rfl (by kernel_rfl) (fun _ _ _ _ h => h) (fun _ _ _ _ h => h) (fun t d => ?_) (fun A u1 hg h => ?_) fun _ _ _ _ _ h => h.elim
  · generalize World.re u t d = v
    simp only [bCm, cl, cr, ct, co, Tryd.f18, Option.getD_some, List.size_toArray, List.length_cons, List.length_nil, Nat.reduceAdd, Nat.reduceSub, Array.replicate_succ, Array.replicate_zero, List.push_toArray, List.append_toArray, List.nil_append, List.cons_append]
    go_wp2_with fail
    exact ⟨⟨rfl, rfl, rfl⟩, Ext.refl _ _⟩
  have hA := h
  clear h
  obtain ⟨T, ds⟩ := A
  obtain ⟨hsz, hds, h_0⟩ := hA
  obtain rfl : ds = [] := hds
  try clear hds
  replace hsz : T.size = 7 := hsz
  revert h_0
  revert hsz
  revert T
  refine arr7 ?_
  intro e0 e1 e2 e3 e4 e5 e6 h_0
  have h_0 : e0 = .nilIface := h_0
  subst h_0
  replace E : Errs u1 a0 a1 := E.gx hg
  clear hg
  rw [cm1]
  refine Gw.ctl rfl (fun w => stepG_seq) ?_
  refine Gw.ctl rfl (fun w => stepG_region) ?_
  rw [show List.range mr1.size = [0, 1, 2, 3, 4] from rfl]
  refine Gw.mv (oo := mr1.getD 0 default) rfl (.inl rfl) rfl (bkn _) ?_
  refine (?_ : ∀ A : Act, (A.tmps.size = 7 ∧ A.defers = [] ∧ A.tmps.getD 3 undef = .nilIface) → Gw _ _ _ _ _ _ (G ((base 18).at A _) _)) _ ⟨rfl, rfl, rfl⟩
  intro A hA
  obtain ⟨T, ds⟩ := A
  obtain ⟨hsz, hds, h_3⟩ := hA
  obtain rfl : ds = [] := hds
  try clear hds
  replace hsz : T.size = 7 := hsz
  revert h_3
  revert hsz
  revert T
  refine arr7 ?_
  intro e0 e1 e2 e3 e4 e5 e6 h_3
  have h_3 : e3 = .nilIface := h_3
  subst h_3
  refine Gw.fop (oo := mr1.getD 1 default) (v := .iface 124 (.pointer (some a0))) rfl rfl (bkn _) (load_op (w := u1) (o := mr1.getD 1 default) (x := .global 0) (p := ⟨0, 0, none⟩) rfl rfl E.g0).1 (load_op (w := u1) (o := mr1.getD 1 default) (x := .global 0) (p := ⟨0, 0, none⟩) rfl rfl E.g0).2 ?_
  refine (?_ : ∀ A : Act, (A.tmps.size = 7 ∧ A.defers = [] ∧ A.tmps.getD 3 undef = .nilIface ∧ A.tmps.getD 4 undef = .iface 124 (.pointer (some a0))) → Gw _ _ _ _ _ _ (G ((base 18).at A _) _)) _ ⟨rfl, rfl, rfl, rfl⟩
  intro A hA
  obtain ⟨T, ds⟩ := A
  obtain ⟨hsz, hds, h_3, h_4⟩ := hA
  obtain rfl : ds = [] := hds
  try clear hds
  replace hsz : T.size = 7 := hsz
  revert h_3 h_4
  revert hsz
  revert T
  refine arr7 ?_
  intro e0 e1 e2 e3 e4 e5 e6 h_3 h_4
  have h_3 : e3 = .nilIface := h_3
  subst h_3
  have h_4 : e4 = .iface 124 (.pointer (some a0)) := h_4
  subst h_4
  refine Gw.gcall (oo := mr1.getD 2 default) (g := 31) (args := #[.tmp 3, .tmp 4]) rfl rfl (bkn _) rfl Tryd.func31 nmIS rfl (vals := #[.nilIface, .iface 124 (.pointer (some a0))]) (by simp [Act.eval]) (Is_nil_g E) fun X4 v u9 hg hv => ?_
  subst hv
  replace E : Errs u9 a0 a1 := E.gx hg
  clear hg
  refine (?_ : ∀ A : Act, (A.tmps.size = 7 ∧ A.defers = [] ∧ A.tmps.getD 5 undef = .bool false) → Gw _ _ _ _ _ _ (G ((base 18).at A _) _)) _ ⟨rfl, rfl, rfl⟩
  intro A hA
  obtain ⟨T, ds⟩ := A
  obtain ⟨hsz, hds, h_5⟩ := hA
  obtain rfl : ds = [] := hds
  try clear hds
  replace hsz : T.size = 7 := hsz
  revert h_5
  revert hsz
  revert T
  refine arr7 ?_
  intro e0 e1 e2 e3 e4 e5 e6 h_5
  have h_5 : e5 = .bool false := h_5
  subst h_5
  refine Gw.oprest CC RR (f := 18) (N := fun a' u' => (a'.tmps.size = 7 ∧ a'.defers = [] ∧ a'.tmps.getD 2 undef = .bool true)) rfl (kn_nil rfl) rfl (by kernel_rfl) (fun _ _ _ _ h => h) (fun t d => ?_) (fun A u10 hg hA => ?_)
  · generalize World.re u9 t d = v
    refine wpOps_rest 3 rfl ?_
    simp only [mr1, bCm, cl, cr, ct, co, cth, cel, Tryd.f18, Option.getD_some, List.drop_succ_cons, List.drop_zero]
    go_wp2_with fail
    exact ⟨⟨rfl, rfl, rfl⟩, Ext.refl _ _⟩
  obtain ⟨T, ds⟩ := A
  obtain ⟨hsz, hds, h_2⟩ := hA
  obtain rfl : ds = [] := hds
  try clear hds
  replace hsz : T.size = 7 := hsz
  revert h_2
  revert hsz
  revert T
  refine arr7 ?_
  intro e0 e1 e2 e3 e4 e5 e6 h_2
  have h_2 : e2 = .bool true := h_2
  subst h_2
  replace E : Errs u10 a0 a1 := E.gx hg
  clear hg
  refine Gw.ctl rfl (fun w => stepG_ret') ?_
  exact leave rfl rfl

set_option maxRecDepth 20000 in
set_option maxHeartbeats 4000000 in
theorem complete_same_g {a0 a1 : Addr} {u : World} (E : Errs u a0 a1) : GCalls Tryd.prog 18 #[.iface 124 (.pointer (some a0))] u fun v u' => v = .bool false := by
  refine GCalls.of (cd := bCm) Tryd.func18 rfl fun X c cs hXl => ?_
  have leave : ∀ {X' : Nat → Prop} {u1 : World} {a' : Act} {todo : List Item}, a'.defers = [] → a'.tmps.getD 2 undef = .bool false → Gw Tryd.prog X u (fun X' g' w' => ∃ v u', g' = G (c.finish v) cs ∧ Wd X u X' u' w' ∧ v = .bool false) X' u1 (G { (base 18).at a' todo with mode := .returning } (c :: cs)) := fun hd h2 =>
    Gw.leave (v := .bool false) Tryd.func18 hd (by rw [← h2]; simp [results, Tryd.f18]) (Gw.done (Post := fun v u' => v = .bool false) rfl)
  refine Gw.ctl rfl (fun w => stepG_seq (x := cl (ct 0 bCm)) (y := (ct 1 bCm))) ?_
  refine Gw.seg CC RR (f := 18) (N := fun a' u' => (a'.tmps.size = 7 ∧ a'.defers = [] ∧ a'.tmps.getD 0 undef = .iface 124 (.pointer (some a0)))) (Rt := fun a' u' => False) rfl (kn_nil rfl) rfl (by kernel_rfl) (fun _ _ _ _ h => h) (fun _ _ _ _ h => h) (fun t d => ?_) (fun A u1 hg h => ?_) fun _ _ _ _ _ h => h.elim
  · generalize World.re u t d = v
    simp only [bCm, cl, cr, ct, co, Tryd.f18, Option.getD_some, List.size_toArray, List.length_cons, List.length_nil, Nat.reduceAdd, Nat.reduceSub, Array.replicate_succ, Array.replicate_zero, List.push_toArray, List.append_toArray, List.nil_append, List.cons_append]
    go_wp2_with fail
    exact ⟨⟨rfl, rfl, rfl⟩, Ext.refl _ _⟩
  have hA := h
  clear h
  obtain ⟨T, ds⟩ := A
  obtain ⟨hsz, hds, h_0⟩ := hA
  obtain rfl : ds = [] := hds
  try clear hds
  replace hsz : T.size = 7 := hsz
  revert h_0
  revert hsz
  revert T
  refine arr7 ?_
  intro e0 e1 e2 e3 e4 e5 e6 h_0
  have h_0 : e0 = .iface 124 (.pointer (some a0)) := h_0
  subst h_0
  replace E : Errs u1 a0 a1 := E.gx hg
  clear hg
  rw [cm1]
  refine Gw.ctl rfl (fun w => stepG_seq) ?_
  refine Gw.ctl rfl (fun w => stepG_region) ?_
  rw [show List.range mr1.size = [0, 1, 2, 3, 4] from rfl]
  refine Gw.mv (oo := mr1.getD 0 default) rfl (.inl rfl) rfl (bkn _) ?_
  refine (?_ : ∀ A : Act, (A.tmps.size = 7 ∧ A.defers = [] ∧ A.tmps.getD 3 undef = .iface 124 (.pointer (some a0))) → Gw _ _ _ _ _ _ (G ((base 18).at A _) _)) _ ⟨rfl, rfl, rfl⟩
  intro A hA
  obtain ⟨T, ds⟩ := A
  obtain ⟨hsz, hds, h_3⟩ := hA
  obtain rfl : ds = [] := hds
  try clear hds
  replace hsz : T.size = 7 := hsz
  revert h_3
  revert hsz
  revert T
  refine arr7 ?_
  intro e0 e1 e2 e3 e4 e5 e6 h_3
  have h_3 : e3 = .iface 124 (.pointer (some a0)) := h_3
  subst h_3
  refine Gw.fop (oo := mr1.getD 1 default) (v := .iface 124 (.pointer (some a0))) rfl rfl (bkn _) (load_op (w := u1) (o := mr1.getD 1 default) (x := .global 0) (p := ⟨0, 0, none⟩) rfl rfl E.g0).1 (load_op (w := u1) (o := mr1.getD 1 default) (x := .global 0) (p := ⟨0, 0, none⟩) rfl rfl E.g0).2 ?_
  refine (?_ : ∀ A : Act, (A.tmps.size = 7 ∧ A.defers = [] ∧ A.tmps.getD 3 undef = .iface 124 (.pointer (some a0)) ∧ A.tmps.getD 4 undef = .iface 124 (.pointer (some a0))) → Gw _ _ _ _ _ _ (G ((base 18).at A _) _)) _ ⟨rfl, rfl, rfl, rfl⟩
  intro A hA
  obtain ⟨T, ds⟩ := A
  obtain ⟨hsz, hds, h_3, h_4⟩ := hA
  obtain rfl : ds = [] := hds
  try clear hds
  replace hsz : T.size = 7 := hsz
  revert h_3 h_4
  revert hsz
  revert T
  refine arr7 ?_
  intro e0 e1 e2 e3 e4 e5 e6 h_3 h_4
  have h_3 : e3 = .iface 124 (.pointer (some a0)) := h_3
  subst h_3
  have h_4 : e4 = .iface 124 (.pointer (some a0)) := h_4
  subst h_4
  refine Gw.gcall (oo := mr1.getD 2 default) (g := 31) (args := #[.tmp 3, .tmp 4]) rfl rfl (bkn _) rfl Tryd.func31 nmIS rfl (vals := #[.iface 124 (.pointer (some a0)), .iface 124 (.pointer (some a0))]) (by simp [Act.eval]) (Is_same_g E) fun X4 v u9 hg hv => ?_
  subst hv
  replace E : Errs u9 a0 a1 := E.gx hg
  clear hg
  refine (?_ : ∀ A : Act, (A.tmps.size = 7 ∧ A.defers = [] ∧ A.tmps.getD 5 undef = .bool true) → Gw _ _ _ _ _ _ (G ((base 18).at A _) _)) _ ⟨rfl, rfl, rfl⟩
  intro A hA
  obtain ⟨T, ds⟩ := A
  obtain ⟨hsz, hds, h_5⟩ := hA
  obtain rfl : ds = [] := hds
  try clear hds
  replace hsz : T.size = 7 := hsz
  revert h_5
  revert hsz
  revert T
  refine arr7 ?_
  intro e0 e1 e2 e3 e4 e5 e6 h_5
  have h_5 : e5 = .bool true := h_5
  subst h_5
  refine Gw.oprest CC RR (f := 18) (N := fun a' u' => (a'.tmps.size = 7 ∧ a'.defers = [] ∧ a'.tmps.getD 2 undef = .bool false)) rfl (kn_nil rfl) rfl (by kernel_rfl) (fun _ _ _ _ h => h) (fun t d => ?_) (fun A u10 hg hA => ?_)
  · generalize World.re u9 t d = v
    refine wpOps_rest 3 rfl ?_
    simp only [mr1, bCm, cl, cr, ct, co, cth, cel, Tryd.f18, Option.getD_some, List.drop_succ_cons, List.drop_zero]
    go_wp2_with fail
    exact ⟨⟨rfl, rfl, rfl⟩, Ext.refl _ _⟩
  obtain ⟨T, ds⟩ := A
  obtain ⟨hsz, hds, h_2⟩ := hA
  obtain rfl : ds = [] := hds
  try clear hds
  replace hsz : T.size = 7 := hsz
  revert h_2
  revert hsz
  revert T
  refine arr7 ?_
  intro e0 e1 e2 e3 e4 e5 e6 h_2
  have h_2 : e2 = .bool false := h_2
  subst h_2
  replace E : Errs u10 a0 a1 := E.gx hg
  clear hg
  refine Gw.ctl rfl (fun w => stepG_ret') ?_
  exact leave rfl rfl

set_option maxRecDepth 20000 in
set_option maxHeartbeats 4000000 in
theorem complete_other_g {a0 a1 : Addr} {u : World} (E : Errs u a0 a1) : GCalls Tryd.prog 18 #[.iface 124 (.pointer (some a1))] u fun v u' => v = .bool true := by
  refine GCalls.of (cd := bCm) Tryd.func18 rfl fun X c cs hXl => ?_
  have leave : ∀ {X' : Nat → Prop} {u1 : World} {a' : Act} {todo : List Item}, a'.defers = [] → a'.tmps.getD 2 undef = .bool true → Gw Tryd.prog X u (fun X' g' w' => ∃ v u', g' = G (c.finish v) cs ∧ Wd X u X' u' w' ∧ v = .bool true) X' u1 (G { (base 18).at a' todo with mode := .returning } (c :: cs)) := fun hd h2 =>
    Gw.leave (v := .bool true) Tryd.func18 hd (by rw [← h2]; simp [results, Tryd.f18]) (Gw.done (Post := fun v u' => v = .bool true) rfl)
  refine Gw.ctl rfl (fun w => stepG_seq (x := cl (ct 0 bCm)) (y := (ct 1 bCm))) ?_
  refine Gw.seg CC RR (f := 18) (N := fun a' u' => (a'.tmps.size = 7 ∧ a'.defers = [] ∧ a'.tmps.getD 0 undef = .iface 124 (.pointer (some a1)))) (Rt := fun a' u' => False) rfl (kn_nil rfl) rfl (by kernel_rfl) (fun _ _ _ _ h => h) (fun _ _ _ _ h => h) (fun t d => ?_) (fun A u1 hg h => ?_) fun _ _ _ _ _ h => h.elim
  · generalize World.re u t d = v
    simp only [bCm, cl, cr, ct, co, Tryd.f18, Option.getD_some, List.size_toArray, List.length_cons, List.length_nil, Nat.reduceAdd, Nat.reduceSub, Array.replicate_succ, Array.replicate_zero, List.push_toArray, List.append_toArray, List.nil_append, List.cons_append]
    go_wp2_with fail
    exact ⟨⟨rfl, rfl, rfl⟩, Ext.refl _ _⟩
  have hA := h
  clear h
  obtain ⟨T, ds⟩ := A
  obtain ⟨hsz, hds, h_0⟩ := hA
  obtain rfl : ds = [] := hds
  try clear hds
  replace hsz : T.size = 7 := hsz
  revert h_0
  revert hsz
  revert T
  refine arr7 ?_
  intro e0 e1 e2 e3 e4 e5 e6 h_0
  have h_0 : e0 = .iface 124 (.pointer (some a1)) := h_0
  subst h_0
  replace E : Errs u1 a0 a1 := E.gx hg
  clear hg
  rw [cm1]
  refine Gw.ctl rfl (fun w => stepG_seq) ?_
  refine Gw.ctl rfl (fun w => stepG_region) ?_
  rw [show List.range mr1.size = [0, 1, 2, 3, 4] from rfl]
  refine Gw.mv (oo := mr1.getD 0 default) rfl (.inl rfl) rfl (bkn _) ?_
  refine (?_ : ∀ A : Act, (A.tmps.size = 7 ∧ A.defers = [] ∧ A.tmps.getD 3 undef = .iface 124 (.pointer (some a1))) → Gw _ _ _ _ _ _ (G ((base 18).at A _) _)) _ ⟨rfl, rfl, rfl⟩
  intro A hA
  obtain ⟨T, ds⟩ := A
  obtain ⟨hsz, hds, h_3⟩ := hA
  obtain rfl : ds = [] := hds
  try clear hds
  replace hsz : T.size = 7 := hsz
  revert h_3
  revert hsz
  revert T
  refine arr7 ?_
  intro e0 e1 e2 e3 e4 e5 e6 h_3
  have h_3 : e3 = .iface 124 (.pointer (some a1)) := h_3
  subst h_3
  refine Gw.fop (oo := mr1.getD 1 default) (v := .iface 124 (.pointer (some a0))) rfl rfl (bkn _) (load_op (w := u1) (o := mr1.getD 1 default) (x := .global 0) (p := ⟨0, 0, none⟩) rfl rfl E.g0).1 (load_op (w := u1) (o := mr1.getD 1 default) (x := .global 0) (p := ⟨0, 0, none⟩) rfl rfl E.g0).2 ?_
  refine (?_ : ∀ A : Act, (A.tmps.size = 7 ∧ A.defers = [] ∧ A.tmps.getD 3 undef = .iface 124 (.pointer (some a1)) ∧ A.tmps.getD 4 undef = .iface 124 (.pointer (some a0))) → Gw _ _ _ _ _ _ (G ((base 18).at A _) _)) _ ⟨rfl, rfl, rfl, rfl⟩
  intro A hA
  obtain ⟨T, ds⟩ := A
  obtain ⟨hsz, hds, h_3, h_4⟩ := hA
  obtain rfl : ds = [] := hds
  try clear hds
  replace hsz : T.size = 7 := hsz
  revert h_3 h_4
  revert hsz
  revert T
  refine arr7 ?_
  intro e0 e1 e2 e3 e4 e5 e6 h_3 h_4
  have h_3 : e3 = .iface 124 (.pointer (some a1)) := h_3
  subst h_3
  have h_4 : e4 = .iface 124 (.pointer (some a0)) := h_4
  subst h_4
  refine Gw.gcall (oo := mr1.getD 2 default) (g := 31) (args := #[.tmp 3, .tmp 4]) rfl rfl (bkn _) rfl Tryd.func31 nmIS rfl (vals := #[.iface 124 (.pointer (some a1)), .iface 124 (.pointer (some a0))]) (by simp [Act.eval]) (Is_other_g E) fun X4 v u9 hg hv => ?_
  subst hv
  replace E : Errs u9 a0 a1 := E.gx hg
  clear hg
  refine (?_ : ∀ A : Act, (A.tmps.size = 7 ∧ A.defers = [] ∧ A.tmps.getD 5 undef = .bool false) → Gw _ _ _ _ _ _ (G ((base 18).at A _) _)) _ ⟨rfl, rfl, rfl⟩
  intro A hA
  obtain ⟨T, ds⟩ := A
  obtain ⟨hsz, hds, h_5⟩ := hA
  obtain rfl : ds = [] := hds
  try clear hds
  replace hsz : T.size = 7 := hsz
  revert h_5
  revert hsz
  revert T
  refine arr7 ?_
  intro e0 e1 e2 e3 e4 e5 e6 h_5
  have h_5 : e5 = .bool false := h_5
  subst h_5
  refine Gw.oprest CC RR (f := 18) (N := fun a' u' => (a'.tmps.size = 7 ∧ a'.defers = [] ∧ a'.tmps.getD 2 undef = .bool true)) rfl (kn_nil rfl) rfl (by kernel_rfl) (fun _ _ _ _ h => h) (fun t d => ?_) (fun A u10 hg hA => ?_)
  · generalize World.re u9 t d = v
    refine wpOps_rest 3 rfl ?_
    simp only [mr1, bCm, cl, cr, ct, co, cth, cel, Tryd.f18, Option.getD_some, List.drop_succ_cons, List.drop_zero]
    go_wp2_with fail
    exact ⟨⟨rfl, rfl, rfl⟩, Ext.refl _ _⟩
  obtain ⟨T, ds⟩ := A
  obtain ⟨hsz, hds, h_2⟩ := hA
  obtain rfl : ds = [] := hds
  try clear hds
  replace hsz : T.size = 7 := hsz
  revert h_2
  revert hsz
  revert T
  refine arr7 ?_
  intro e0 e1 e2 e3 e4 e5 e6 h_2
  have h_2 : e2 = .bool true := h_2
  subst h_2
  replace E : Errs u10 a0 a1 := E.gx hg
  clear hg
  refine Gw.ctl rfl (fun w => stepG_ret') ?_
  exact leave rfl rfl
end Go.Proofs.YtnifgfnhcjhodaaDoor
