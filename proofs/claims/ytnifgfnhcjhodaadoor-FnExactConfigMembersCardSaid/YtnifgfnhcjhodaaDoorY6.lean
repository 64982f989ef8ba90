/- impl.ConfigMembers, beside leavers. Conditions: two families and the sentinels lie in memory. -/
import Derived.Test.YtnifgfnhcjhodaaDoorY5
set_option linter.unusedVariables false
set_option linter.unusedSimpArgs false
namespace Go.Proofs.YtnifgfnhcjhodaaDoor
open Go.Conc Go.RowKit

theorem nmRc : (Tryd.f17.name == "runtime.NumGoroutine") = false := by kernel_rfl
theorem nmCm : (Tryd.f18.name == "runtime.NumGoroutine") = false := by kernel_rfl
theorem loadCfg_op {a : Act} {w : World} {o : Oper} {x : Operand} {B : Nat} {s0 s1 : Value} (h : o.op = .load 28 x) (hx : a.eval x = .pointer (some ⟨B, 0, none⟩)) (hc : w.heap[B]? = some (.cells #[s0, s1] 28 (0, 0))) :
    Fit Tryd.prog (execOp a.eval o) ∧ (execOp a.eval o).run Tryd.prog w = .ok (.value (.agg #[s0, s1])) w := by
  obtain ⟨k0, k1, _, _⟩ := cfg_cell hc
  constructor
  · unfold execOp
    simp only [h]
    exact .bd (fit_loadAt _ _) fun _ => .pr _
  · unfold execOp
    simp only [h, hx]
    simp [go_sem, k0, k1]
theorem Mat.two {w : World} {B : Nat} {a : Option Addr} {n c : Nat} {p : List Nat} {b : Option Addr} {m d : Nat} {q : List Nat} {t : TypeId} (hb : w.heap[B]? = some (.cells #[.slice a n c, .slice b m d] t (0, 0))) (hp : OwnC w 0 a n c p) (hq : OwnC w 0 b m d q) :
    Mat w (some ⟨B, 0, none⟩) 2 [p, q] := by
  obtain ⟨k0, k1, _, _⟩ := cfg_cell hb
  refine ⟨[.slice a n c, .slice b m d], ⟨rfl, by unfold maxLen; omega, fun k hk => ⟨B, 0, rfl, ?_⟩⟩, rfl, fun k v r hv hr => ?_⟩
  · have : k = 0 ∨ k = 1 := by omega
    rcases this with rfl | rfl
    · simpa using k0
    · simpa using k1
  · match k, hv, hr with
    | 0, hv, hr => simp at hv hr; subst hv; subst hr; exact ⟨_, _, _, rfl, hp⟩
    | 1, hv, hr => simp at hv hr; subst hv; subst hr; exact ⟨_, _, _, rfl, hq⟩
theorem orL_step (q : List Nat) (z k : Nat) (h : k < q.length) : orL z (q.take (k + 1)) = orL z (q.take k) ||| q.getD k 0 := by
  unfold orL
  rw [snoc_take q 0 k h, List.foldl_append]; rfl
theorem orL_take_lt {q : List Nat} (h : ∀ x ∈ q, x < 64) (k : Nat) : orL 0 (q.take k) < 64 := orL_lt (by omega) fun x hx => h x (List.mem_of_mem_take hx)
def PostM (f g : List (List Int)) (S : Nat) (v : Value) (u : World) : Prop := ∃ a n c, v = .slice a n c ∧ OwnI u S a n c (cmL f g)
def RetM (f g : List (List Int)) (S : Nat) (T : Array Value) (u : World) : Prop := ∃ a n c, T.getD 2 undef = .slice a n c ∧ OwnI u S a n c (cmL f g)
noncomputable def bMb : Code := Tryd.f7.body.getD .skip
noncomputable def rMb1 : Array Oper := co (cl (ct 1 bMb))
noncomputable def rMb2 : Array Oper := co (cl (cl (ct 2 bMb)))
noncomputable def kMb3 : Code := cth (cr (cl (ct 2 bMb)))
theorem mb2 : cl (ct 2 bMb) = .seq (.region 2 rMb2 false) (.cond (.tmp 15) kMb3 .skip) := rfl
set_option maxRecDepth 10000 in
theorem arr33 {motive : Array Value → Prop} (k : ∀ e0 e1 e2 e3 e4 e5 e6 e7 e8 e9 e10 e11 e12 e13 e14 e15 e16 e17 e18 e19 e20 e21 e22 e23 e24 e25 e26 e27 e28 e29 e30 e31 e32 : Value, motive #[e0, e1, e2, e3, e4, e5, e6, e7, e8, e9, e10, e11, e12, e13, e14, e15, e16, e17, e18, e19, e20, e21, e22, e23, e24, e25, e26, e27, e28, e29, e30, e31, e32]) : ∀ T : Array Value, T.size = 33 → motive T := by
  intro T h
  obtain ⟨l⟩ := T
  have h : l.length = 33 := h
  obtain ⟨e0, l0, rfl, h0⟩ := lcons h
  obtain ⟨e1, l1, rfl, h1⟩ := lcons h0
  obtain ⟨e2, l2, rfl, h2⟩ := lcons h1
  obtain ⟨e3, l3, rfl, h3⟩ := lcons h2
  obtain ⟨e4, l4, rfl, h4⟩ := lcons h3
  obtain ⟨e5, l5, rfl, h5⟩ := lcons h4
  obtain ⟨e6, l6, rfl, h6⟩ := lcons h5
  obtain ⟨e7, l7, rfl, h7⟩ := lcons h6
  obtain ⟨e8, l8, rfl, h8⟩ := lcons h7
  obtain ⟨e9, l9, rfl, h9⟩ := lcons h8
  obtain ⟨e10, l10, rfl, h10⟩ := lcons h9
  obtain ⟨e11, l11, rfl, h11⟩ := lcons h10
  obtain ⟨e12, l12, rfl, h12⟩ := lcons h11
  obtain ⟨e13, l13, rfl, h13⟩ := lcons h12
  obtain ⟨e14, l14, rfl, h14⟩ := lcons h13
  obtain ⟨e15, l15, rfl, h15⟩ := lcons h14
  obtain ⟨e16, l16, rfl, h16⟩ := lcons h15
  obtain ⟨e17, l17, rfl, h17⟩ := lcons h16
  obtain ⟨e18, l18, rfl, h18⟩ := lcons h17
  obtain ⟨e19, l19, rfl, h19⟩ := lcons h18
  obtain ⟨e20, l20, rfl, h20⟩ := lcons h19
  obtain ⟨e21, l21, rfl, h21⟩ := lcons h20
  obtain ⟨e22, l22, rfl, h22⟩ := lcons h21
  obtain ⟨e23, l23, rfl, h23⟩ := lcons h22
  obtain ⟨e24, l24, rfl, h24⟩ := lcons h23
  obtain ⟨e25, l25, rfl, h25⟩ := lcons h24
  obtain ⟨e26, l26, rfl, h26⟩ := lcons h25
  obtain ⟨e27, l27, rfl, h27⟩ := lcons h26
  obtain ⟨e28, l28, rfl, h28⟩ := lcons h27
  obtain ⟨e29, l29, rfl, h29⟩ := lcons h28
  obtain ⟨e30, l30, rfl, h30⟩ := lcons h29
  obtain ⟨e31, l31, rfl, h31⟩ := lcons h30
  obtain ⟨e32, l32, rfl, h32⟩ := lcons h31
  obtain rfl := List.length_eq_zero_iff.1 h32
  exact k e0 e1 e2 e3 e4 e5 e6 e7 e8 e9 e10 e11 e12 e13 e14 e15 e16 e17 e18 e19 e20 e21 e22 e23 e24 e25 e26 e27 e28 e29 e30 e31 e32

set_option maxRecDepth 20000 in
set_option maxHeartbeats 4000000 in
theorem ConfigMembers_g {a : Option Addr} {n ca : Nat} {f : List (List Int)} {b : Option Addr} {m cb : Nat} {g : List (List Int)} {a0 a1 : Addr} {u : World} (hf : Fam u a n f) (hg2 : Fam u b m g) (E : Errs u a0 a1) :
    GCalls Tryd.prog 7 #[.agg #[.slice a n ca, .slice b m cb]] u (PostM f g u.heap.size) := by
  refine GCalls.of (cd := bMb) Tryd.func7 rfl fun X c cs hXl => ?_
  have leave : ∀ {X' : Nat → Prop} {u1 : World} {a' : Act} {todo : List Item}, a'.defers = [] → RetM f g u.heap.size a'.tmps u1 → Gw Tryd.prog X u (fun X' g' w' => ∃ v u', g' = G (c.finish v) cs ∧ Wd X u X' u' w' ∧ PostM f g u.heap.size v u') X' u1 (G { (base 7).at a' todo with mode := .returning } (c :: cs)) := fun hd h2 => by
    obtain ⟨a2, n2, c2, h2, hr⟩ := h2
    exact Gw.leave (v := .slice a2 n2 c2) Tryd.func7 hd (by rw [← h2]; simp [results, Tryd.f7]) (Gw.done (Post := PostM f g u.heap.size) ⟨_, _, _, rfl, hr⟩)
  have hS : u.heap.size ≤ u.heap.size := Nat.le_refl _
  refine Gw.ctl rfl (fun w => stepG_seq (x := cl (ct 0 bMb)) (y := (ct 1 bMb))) ?_
  refine Gw.seg CC RR (f := 7) (N := fun a' u' => ∃ B1, (a'.tmps.size = 33 ∧ a'.defers = [] ∧ a'.tmps.getD 1 undef = .pointer (some ⟨B1, 0, none⟩)) ∧ u'.heap[B1]? = some (.cells #[.slice a n ca, .slice b m cb] 28 (0, 0))) (Rt := fun a' u' => False) rfl (kn_nil rfl) rfl (by kernel_rfl) (fun _ _ _ _ h => h) (fun _ _ _ _ h => h) (fun t d => ?_) (fun A u1 hg h => ?_) fun _ _ _ _ _ h => h.elim
  · generalize World.re u t d = v
    simp only [bMb, cl, cr, ct, co, Tryd.f7, Option.getD_some, List.size_toArray, List.length_cons, List.length_nil, Nat.reduceAdd, Nat.reduceSub, Array.replicate_succ, Array.replicate_zero, List.push_toArray, List.append_toArray, List.nil_append, List.cons_append]
    have K1 := cfg_blk v #[.slice a n ca, .slice b m cb] 28
    have HE := (Ext.refl none v).alloc (.cells #[.slice a n ca, .slice b m cb] 28)
    go_wp2_with fail
    exact ⟨⟨_, ⟨rfl, rfl, rfl⟩, K1⟩, HE⟩
  obtain ⟨B1, hA, hB1⟩ := h
  obtain ⟨T, ds⟩ := A
  obtain ⟨hsz, hds, h_1⟩ := hA
  obtain rfl : ds = [] := hds
  try clear hds
  replace hsz : T.size = 33 := hsz
  revert h_1
  revert hsz
  revert T
  refine arr33 ?_
  intro e0 e1 e2 e3 e4 e5 e6 e7 e8 e9 e10 e11 e12 e13 e14 e15 e16 e17 e18 e19 e20 e21 e22 e23 e24 e25 e26 e27 e28 e29 e30 e31 e32 h_1
  have h_1 : e1 = .pointer (some ⟨B1, 0, none⟩) := h_1
  subst h_1
  replace hS : u.heap.size ≤ u1.heap.size := Nat.le_trans hS hg.size
  replace hf : Fam u1 a n f := hg.fam hf
  replace hg2 : Fam u1 b m g := hg.fam hg2
  replace E : Errs u1 a0 a1 := E.gx hg
  clear hg
  refine Gw.ctl rfl (fun w => stepG_seq (x := .region 1 rMb1 false) (y := ct 2 bMb)) ?_
  refine Gw.ctl rfl (fun w => stepG_region) ?_
  rw [show List.range rMb1.size = [0, 1, 2, 3, 4, 5, 6, 7] from rfl]
  refine Gw.fop (oo := rMb1.getD 0 default) (v := .agg #[.slice a n ca, .slice b m cb]) rfl rfl (bkn _) (loadCfg_op (w := u1) (o := rMb1.getD 0 default) (x := .tmp 1) rfl rfl hB1).1 (loadCfg_op (w := u1) (o := rMb1.getD 0 default) (x := .tmp 1) rfl rfl hB1).2 ?_
  refine (?_ : ∀ A : Act, (A.tmps.size = 33 ∧ A.defers = [] ∧ A.tmps.getD 9 undef = .agg #[.slice a n ca, .slice b m cb]) → Gw _ _ _ _ _ _ (G ((base 7).at A _) _)) _ ⟨rfl, rfl, rfl⟩
  intro A hA
  obtain ⟨T, ds⟩ := A
  obtain ⟨hsz, hds, h_9⟩ := hA
  obtain rfl : ds = [] := hds
  try clear hds
  replace hsz : T.size = 33 := hsz
  revert h_9
  revert hsz
  revert T
  refine arr33 ?_
  intro e0 e1 e2 e3 e4 e5 e6 e7 e8 e9 e10 e11 e12 e13 e14 e15 e16 e17 e18 e19 e20 e21 e22 e23 e24 e25 e26 e27 e28 e29 e30 e31 e32 h_9
  have h_9 : e9 = .agg #[.slice a n ca, .slice b m cb] := h_9
  subst h_9
  refine Gw.gcall (oo := rMb1.getD 1 default) (g := 17) (args := #[.tmp 9]) rfl rfl (bkn _) rfl Tryd.func17 nmRc rfl (vals := #[.agg #[.slice a n ca, .slice b m cb]]) (by simp [Act.eval]) (readConfig_g hf hg2 E) fun X4 v u2 hg ⟨s0, s1, e, hv, hR⟩ => ?_
  subst hv
  obtain ⟨xa, n1, c1, ya, m1, d1, rfl, rfl, hR⟩ := hR
  obtain ⟨er, her⟩ : ∃ er, er = e := ⟨_, rfl⟩
  rw [← her] at hR ⊢
  clear her
  replace hS : u.heap.size ≤ u2.heap.size := Nat.le_trans hS hg.size
  replace E : Errs u2 a0 a1 := E.gx hg
  clear hg hf hg2 hB1
  have her : (okC f g = false ∧ er = .iface 124 (.pointer (some a0))) ∨ (okC f g = true ∧ er = .nilIface) ∨ (okC f g = true ∧ er = .iface 124 (.pointer (some a1))) := by
    rcases hR with ⟨h1, h2⟩ | ⟨h1, _, _, h2 | h2⟩
    · exact .inl ⟨h1, h2⟩
    · exact .inr (.inl ⟨h1, h2⟩)
    · exact .inr (.inr ⟨h1, h2⟩)
  rcases her with ⟨hok, he⟩ | ⟨hok, he⟩ | ⟨hok, he⟩
  · clear hR
    subst he
    refine (?_ : ∀ A : Act, (A.tmps.size = 33 ∧ A.defers = [] ∧ A.tmps.getD 10 undef = .tuple #[.agg #[.slice xa n1 c1, .slice ya m1 d1], .iface 124 (.pointer (some a0))]) → Gw _ _ _ _ _ _ (G ((base 7).at A _) _)) _ ⟨rfl, rfl, rfl⟩
    intro A hA
    obtain ⟨T, ds⟩ := A
    obtain ⟨hsz, hds, h_10⟩ := hA
    obtain rfl : ds = [] := hds
    try clear hds
    replace hsz : T.size = 33 := hsz
    revert h_10
    revert hsz
    revert T
    refine arr33 ?_
    intro e0 e1 e2 e3 e4 e5 e6 e7 e8 e9 e10 e11 e12 e13 e14 e15 e16 e17 e18 e19 e20 e21 e22 e23 e24 e25 e26 e27 e28 e29 e30 e31 e32 h_10
    have h_10 : e10 = .tuple #[.agg #[.slice xa n1 c1, .slice ya m1 d1], .iface 124 (.pointer (some a0))] := h_10
    subst h_10
    refine Gw.oprest CC RR (f := 7) (N := fun a' u' => ∃ B3, (a'.tmps.size = 33 ∧ a'.defers = [] ∧ a'.tmps.getD 3 undef = .pointer (some ⟨B3, 0, none⟩) ∧ a'.tmps.getD 4 undef = .iface 124 (.pointer (some a0))) ∧ S2 u' B3 (.slice xa n1 c1) (.slice ya m1 d1)) rfl (kn_nil rfl) rfl (by kernel_rfl) (fun _ _ _ _ h => h) (fun t d => ?_) (fun A u3 hg hA => ?_)
    · generalize World.re u2 t d = v
      have K := cfg_blk v #[.slice xa n1 c1, .slice ya m1 d1] 41
      refine wpOps_rest 2 rfl ?_
      simp only [rMb1, bMb, cl, cr, ct, co, Tryd.f7, Option.getD_some, List.drop_succ_cons, List.drop_zero]
      go_wp2_with fail
      exact ⟨⟨_, ⟨rfl, rfl, rfl, rfl⟩, (show S2 _ _ _ _ from K)⟩, (Ext.refl _ _).alloc _⟩
    obtain ⟨B3, hA, hB3⟩ := hA
    obtain ⟨T, ds⟩ := A
    obtain ⟨hsz, hds, h_3, h_4⟩ := hA
    obtain rfl : ds = [] := hds
    try clear hds
    replace hsz : T.size = 33 := hsz
    revert h_3 h_4
    revert hsz
    revert T
    refine arr33 ?_
    intro e0 e1 e2 e3 e4 e5 e6 e7 e8 e9 e10 e11 e12 e13 e14 e15 e16 e17 e18 e19 e20 e21 e22 e23 e24 e25 e26 e27 e28 e29 e30 e31 e32 h_3 h_4
    have h_3 : e3 = .pointer (some ⟨B3, 0, none⟩) := h_3
    subst h_3
    have h_4 : e4 = .iface 124 (.pointer (some a0)) := h_4
    subst h_4
    replace hS : u.heap.size ≤ u3.heap.size := Nat.le_trans hS hg.size
    replace E : Errs u3 a0 a1 := E.gx hg
    clear hg
    refine Gw.ctl rfl (fun w => stepG_seq (x := cl (ct 2 bMb)) (y := ct 3 bMb)) ?_
    rw [mb2]
    refine Gw.ctl rfl (fun w => stepG_seq) ?_
    refine Gw.ctl rfl (fun w => stepG_region) ?_
    rw [show List.range rMb2.size = [0, 1, 2] from rfl]
    refine Gw.mv (oo := rMb2.getD 0 default) rfl (.inl rfl) rfl (bkn _) ?_
    refine (?_ : ∀ A : Act, (A.tmps.size = 33 ∧ A.defers = [] ∧ A.tmps.getD 3 undef = .pointer (some ⟨B3, 0, none⟩) ∧ A.tmps.getD 13 undef = .iface 124 (.pointer (some a0))) → Gw _ _ _ _ _ _ (G ((base 7).at A _) _)) _ ⟨rfl, rfl, rfl, rfl⟩
    intro A hA
    obtain ⟨T, ds⟩ := A
    obtain ⟨hsz, hds, h_3, h_13⟩ := hA
    obtain rfl : ds = [] := hds
    try clear hds
    replace hsz : T.size = 33 := hsz
    revert h_3 h_13
    revert hsz
    revert T
    refine arr33 ?_
    intro e0 e1 e2 e3 e4 e5 e6 e7 e8 e9 e10 e11 e12 e13 e14 e15 e16 e17 e18 e19 e20 e21 e22 e23 e24 e25 e26 e27 e28 e29 e30 e31 e32 h_3 h_13
    have h_3 : e3 = .pointer (some ⟨B3, 0, none⟩) := h_3
    subst h_3
    have h_13 : e13 = .iface 124 (.pointer (some a0)) := h_13
    subst h_13
    refine Gw.gcall (oo := rMb2.getD 1 default) (g := 18) (args := #[.tmp 13]) rfl rfl (bkn _) rfl Tryd.func18 nmCm rfl (vals := #[.iface 124 (.pointer (some a0))]) (by simp [Act.eval]) (complete_same_g E) fun X5 v u4 hg hv => ?_
    subst hv
    refine (?_ : ∀ A : Act, (A.tmps.size = 33 ∧ A.defers = [] ∧ A.tmps.getD 3 undef = .pointer (some ⟨B3, 0, none⟩) ∧ A.tmps.getD 14 undef = .bool false) → Gw _ _ _ _ _ _ (G ((base 7).at A _) _)) _ ⟨rfl, rfl, rfl, rfl⟩
    intro A hA
    obtain ⟨T, ds⟩ := A
    obtain ⟨hsz, hds, h_3, h_14⟩ := hA
    obtain rfl : ds = [] := hds
    try clear hds
    replace hsz : T.size = 33 := hsz
    revert h_3 h_14
    revert hsz
    revert T
    refine arr33 ?_
    intro e0 e1 e2 e3 e4 e5 e6 e7 e8 e9 e10 e11 e12 e13 e14 e15 e16 e17 e18 e19 e20 e21 e22 e23 e24 e25 e26 e27 e28 e29 e30 e31 e32 h_3 h_14
    have h_3 : e3 = .pointer (some ⟨B3, 0, none⟩) := h_3
    subst h_3
    have h_14 : e14 = .bool false := h_14
    subst h_14
    replace hS : u.heap.size ≤ u4.heap.size := Nat.le_trans hS hg.size
    replace E : Errs u4 a0 a1 := E.gx hg
    replace hB3 := hg.s2 hB3
    clear hg
    refine Gw.oprest CC RR (f := 7) (N := fun a' u' => (a'.tmps.size = 33 ∧ a'.defers = [] ∧ a'.tmps.getD 3 undef = .pointer (some ⟨B3, 0, none⟩) ∧ a'.tmps.getD 15 undef = .bool true)) rfl (kn_nil rfl) rfl (by kernel_rfl) (fun _ _ _ _ h => h) (fun t d => ?_) (fun A u5 hg hA => ?_)
    · generalize World.re u4 t d = v
      refine wpOps_rest 2 rfl ?_
      simp only [rMb2, bMb, cl, cr, ct, co, Tryd.f7, Option.getD_some, List.drop_succ_cons, List.drop_zero]
      go_wp2_with fail
      exact ⟨⟨rfl, rfl, rfl, rfl⟩, Ext.refl _ _⟩
    obtain ⟨T, ds⟩ := A
    obtain ⟨hsz, hds, h_3, h_15⟩ := hA
    obtain rfl : ds = [] := hds
    try clear hds
    replace hsz : T.size = 33 := hsz
    revert h_3 h_15
    revert hsz
    revert T
    refine arr33 ?_
    intro e0 e1 e2 e3 e4 e5 e6 e7 e8 e9 e10 e11 e12 e13 e14 e15 e16 e17 e18 e19 e20 e21 e22 e23 e24 e25 e26 e27 e28 e29 e30 e31 e32 h_3 h_15
    have h_3 : e3 = .pointer (some ⟨B3, 0, none⟩) := h_3
    subst h_3
    have h_15 : e15 = .bool true := h_15
    subst h_15
    replace hS : u.heap.size ≤ u5.heap.size := Nat.le_trans hS hg.size
    replace E : Errs u5 a0 a1 := E.gx hg
    replace hB3 := hg.s2 hB3
    clear hg
    refine Gw.ctl rfl (fun w => stepG_cond (t := true) rfl) ?_
    have hno := Lib.hid (cmL_no hok)
    refine Gw.seg CC RR (f := 7) (cd := kMb3) (N := fun _ _ => False) (Rt := fun a' u' => RetM f g u.heap.size a'.tmps u') rfl (kn_nil rfl) rfl (by kernel_rfl) (fun _ _ _ _ h => h) (fun _ _ _ _ h => h) (fun t d => ?_) (fun _ _ _ h => h.elim) fun A u9 todo hd hg h => leave hd h
    · generalize World.re u5 t d = v
      simp only [kMb3, bMb, cl, cr, ct, co, cth, cel, Tryd.f7, Option.getD_some]
      go_wp2_with fail
      exact ⟨⟨_, _, _, rfl, by rw [hno.out]; exact OwnI.nil _ _⟩, Ext.refl _ _⟩
  · obtain ⟨hx, hy⟩ : OwnC u2 0 xa n1 c1 (masks f) ∧ OwnC u2 0 ya m1 d1 (masks g) := by
      rcases hR with ⟨h1, _⟩ | ⟨_, h1, h2, _⟩
      · rw [hok] at h1; cases h1
      · exact ⟨h1, h2⟩
    clear hR
    subst he
    refine (?_ : ∀ A : Act, (A.tmps.size = 33 ∧ A.defers = [] ∧ A.tmps.getD 10 undef = .tuple #[.agg #[.slice xa n1 c1, .slice ya m1 d1], .nilIface]) → Gw _ _ _ _ _ _ (G ((base 7).at A _) _)) _ ⟨rfl, rfl, rfl⟩
    intro A hA
    obtain ⟨T, ds⟩ := A
    obtain ⟨hsz, hds, h_10⟩ := hA
    obtain rfl : ds = [] := hds
    try clear hds
    replace hsz : T.size = 33 := hsz
    revert h_10
    revert hsz
    revert T
    refine arr33 ?_
    intro e0 e1 e2 e3 e4 e5 e6 e7 e8 e9 e10 e11 e12 e13 e14 e15 e16 e17 e18 e19 e20 e21 e22 e23 e24 e25 e26 e27 e28 e29 e30 e31 e32 h_10
    have h_10 : e10 = .tuple #[.agg #[.slice xa n1 c1, .slice ya m1 d1], .nilIface] := h_10
    subst h_10
    refine Gw.oprest CC RR (f := 7) (N := fun a' u' => ∃ B3, (a'.tmps.size = 33 ∧ a'.defers = [] ∧ a'.tmps.getD 3 undef = .pointer (some ⟨B3, 0, none⟩) ∧ a'.tmps.getD 4 undef = .nilIface) ∧ S2 u' B3 (.slice xa n1 c1) (.slice ya m1 d1)) rfl (kn_nil rfl) rfl (by kernel_rfl) (fun _ _ _ _ h => h) (fun t d => ?_) (fun A u3 hg hA => ?_)
    · generalize World.re u2 t d = v
      have K := cfg_blk v #[.slice xa n1 c1, .slice ya m1 d1] 41
      refine wpOps_rest 2 rfl ?_
      simp only [rMb1, bMb, cl, cr, ct, co, Tryd.f7, Option.getD_some, List.drop_succ_cons, List.drop_zero]
      go_wp2_with fail
      exact ⟨⟨_, ⟨rfl, rfl, rfl, rfl⟩, (show S2 _ _ _ _ from K)⟩, (Ext.refl _ _).alloc _⟩
    obtain ⟨B3, hA, hB3⟩ := hA
    obtain ⟨T, ds⟩ := A
    obtain ⟨hsz, hds, h_3, h_4⟩ := hA
    obtain rfl : ds = [] := hds
    try clear hds
    replace hsz : T.size = 33 := hsz
    revert h_3 h_4
    revert hsz
    revert T
    refine arr33 ?_
    intro e0 e1 e2 e3 e4 e5 e6 e7 e8 e9 e10 e11 e12 e13 e14 e15 e16 e17 e18 e19 e20 e21 e22 e23 e24 e25 e26 e27 e28 e29 e30 e31 e32 h_3 h_4
    have h_3 : e3 = .pointer (some ⟨B3, 0, none⟩) := h_3
    subst h_3
    have h_4 : e4 = .nilIface := h_4
    subst h_4
    replace hS : u.heap.size ≤ u3.heap.size := Nat.le_trans hS hg.size
    replace E : Errs u3 a0 a1 := E.gx hg
    replace hx := hg.ownC hx
    replace hy := hg.ownC hy
    clear hg
    refine Gw.ctl rfl (fun w => stepG_seq (x := cl (ct 2 bMb)) (y := ct 3 bMb)) ?_
    rw [mb2]
    refine Gw.ctl rfl (fun w => stepG_seq) ?_
    refine Gw.ctl rfl (fun w => stepG_region) ?_
    rw [show List.range rMb2.size = [0, 1, 2] from rfl]
    refine Gw.mv (oo := rMb2.getD 0 default) rfl (.inl rfl) rfl (bkn _) ?_
    refine (?_ : ∀ A : Act, (A.tmps.size = 33 ∧ A.defers = [] ∧ A.tmps.getD 3 undef = .pointer (some ⟨B3, 0, none⟩) ∧ A.tmps.getD 13 undef = .nilIface) → Gw _ _ _ _ _ _ (G ((base 7).at A _) _)) _ ⟨rfl, rfl, rfl, rfl⟩
    intro A hA
    obtain ⟨T, ds⟩ := A
    obtain ⟨hsz, hds, h_3, h_13⟩ := hA
    obtain rfl : ds = [] := hds
    try clear hds
    replace hsz : T.size = 33 := hsz
    revert h_3 h_13
    revert hsz
    revert T
    refine arr33 ?_
    intro e0 e1 e2 e3 e4 e5 e6 e7 e8 e9 e10 e11 e12 e13 e14 e15 e16 e17 e18 e19 e20 e21 e22 e23 e24 e25 e26 e27 e28 e29 e30 e31 e32 h_3 h_13
    have h_3 : e3 = .pointer (some ⟨B3, 0, none⟩) := h_3
    subst h_3
    have h_13 : e13 = .nilIface := h_13
    subst h_13
    refine Gw.gcall (oo := rMb2.getD 1 default) (g := 18) (args := #[.tmp 13]) rfl rfl (bkn _) rfl Tryd.func18 nmCm rfl (vals := #[.nilIface]) (by simp [Act.eval]) (complete_nil_g E) fun X5 v u4 hg hv => ?_
    subst hv
    refine (?_ : ∀ A : Act, (A.tmps.size = 33 ∧ A.defers = [] ∧ A.tmps.getD 3 undef = .pointer (some ⟨B3, 0, none⟩) ∧ A.tmps.getD 14 undef = .bool true) → Gw _ _ _ _ _ _ (G ((base 7).at A _) _)) _ ⟨rfl, rfl, rfl, rfl⟩
    intro A hA
    obtain ⟨T, ds⟩ := A
    obtain ⟨hsz, hds, h_3, h_14⟩ := hA
    obtain rfl : ds = [] := hds
    try clear hds
    replace hsz : T.size = 33 := hsz
    revert h_3 h_14
    revert hsz
    revert T
    refine arr33 ?_
    intro e0 e1 e2 e3 e4 e5 e6 e7 e8 e9 e10 e11 e12 e13 e14 e15 e16 e17 e18 e19 e20 e21 e22 e23 e24 e25 e26 e27 e28 e29 e30 e31 e32 h_3 h_14
    have h_3 : e3 = .pointer (some ⟨B3, 0, none⟩) := h_3
    subst h_3
    have h_14 : e14 = .bool true := h_14
    subst h_14
    replace hS : u.heap.size ≤ u4.heap.size := Nat.le_trans hS hg.size
    replace E : Errs u4 a0 a1 := E.gx hg
    replace hx := hg.ownC hx
    replace hy := hg.ownC hy
    replace hB3 := hg.s2 hB3
    clear hg
    refine Gw.oprest CC RR (f := 7) (N := fun a' u' => (a'.tmps.size = 33 ∧ a'.defers = [] ∧ a'.tmps.getD 3 undef = .pointer (some ⟨B3, 0, none⟩) ∧ a'.tmps.getD 15 undef = .bool false)) rfl (kn_nil rfl) rfl (by kernel_rfl) (fun _ _ _ _ h => h) (fun t d => ?_) (fun A u5 hg hA => ?_)
    · generalize World.re u4 t d = v
      refine wpOps_rest 2 rfl ?_
      simp only [rMb2, bMb, cl, cr, ct, co, Tryd.f7, Option.getD_some, List.drop_succ_cons, List.drop_zero]
      go_wp2_with fail
      exact ⟨⟨rfl, rfl, rfl, rfl⟩, Ext.refl _ _⟩
    obtain ⟨T, ds⟩ := A
    obtain ⟨hsz, hds, h_3, h_15⟩ := hA
    obtain rfl : ds = [] := hds
    try clear hds
    replace hsz : T.size = 33 := hsz
    revert h_3 h_15
    revert hsz
    revert T
    refine arr33 ?_
    intro e0 e1 e2 e3 e4 e5 e6 e7 e8 e9 e10 e11 e12 e13 e14 e15 e16 e17 e18 e19 e20 e21 e22 e23 e24 e25 e26 e27 e28 e29 e30 e31 e32 h_3 h_15
    have h_3 : e3 = .pointer (some ⟨B3, 0, none⟩) := h_3
    subst h_3
    have h_15 : e15 = .bool false := h_15
    subst h_15
    replace hS : u.heap.size ≤ u5.heap.size := Nat.le_trans hS hg.size
    replace E : Errs u5 a0 a1 := E.gx hg
    replace hx := hg.ownC hx
    replace hy := hg.ownC hy
    replace hB3 := hg.s2 hB3
    clear hg
    refine Gw.ctl rfl (fun w => stepG_cond (t := false) rfl) ?_
    refine Gw.ctl rfl (fun w => stepG_skip) ?_
    refine Gw.ctl rfl (fun w => stepG_seq (x := cl (ct 3 bMb)) (y := (ct 4 bMb))) ?_
    refine Gw.seg CC RR (f := 7) (N := fun a' u' => (a'.tmps.size = 33 ∧ a'.defers = [] ∧ a'.tmps.getD 3 undef = .pointer (some ⟨B3, 0, none⟩) ∧ a'.tmps.getD 5 undef = .int .u64 0)) (Rt := fun a' u' => False) rfl (kn_nil rfl) rfl (by kernel_rfl) (fun _ _ _ _ h => h) (fun _ _ _ _ h => h) (fun t d => ?_) (fun A u6 hg h => ?_) fun _ _ _ _ _ h => h.elim
    · generalize World.re u5 t d = v
      simp only [bMb, cl, cr, ct, co, Tryd.f7, Option.getD_some]
      go_wp2_with fail
      exact ⟨⟨rfl, rfl, rfl, rfl⟩, Ext.refl _ _⟩
    have hA := h
    clear h
    obtain ⟨T, ds⟩ := A
    obtain ⟨hsz, hds, h_3, h_5⟩ := hA
    obtain rfl : ds = [] := hds
    try clear hds
    replace hsz : T.size = 33 := hsz
    revert h_3 h_5
    revert hsz
    revert T
    refine arr33 ?_
    intro e0 e1 e2 e3 e4 e5 e6 e7 e8 e9 e10 e11 e12 e13 e14 e15 e16 e17 e18 e19 e20 e21 e22 e23 e24 e25 e26 e27 e28 e29 e30 e31 e32 h_3 h_5
    have h_3 : e3 = .pointer (some ⟨B3, 0, none⟩) := h_3
    subst h_3
    have h_5 : e5 = .int .u64 0 := h_5
    subst h_5
    replace hS : u.heap.size ≤ u6.heap.size := Nat.le_trans hS hg.size
    replace E : Errs u6 a0 a1 := E.gx hg
    replace hx := hg.ownC hx
    replace hy := hg.ownC hy
    replace hB3 := hg.s2 hB3
    clear hg
    obtain ⟨h2a, h2b⟩ := ok2_fam (okC_ok2 hok)
    have hlf := Lib.hid (show ∀ x ∈ masks f ++ masks g, x < 64 from fun x hx => (List.mem_append.1 hx).elim (masks_lt h2a x) (masks_lt h2b x))
    have hl1 := Lib.hid (show ∀ r ∈ [masks f, masks g], r.length ≤ 20 from fun r hr => by
      simp only [List.mem_cons, List.not_mem_nil, or_false] at hr
      rcases hr with rfl | rfl
      · rw [masks_len]; exact famB_len h2a
      · rw [masks_len]; exact famB_len h2b)
    have hyes := Lib.hid (cmL_yes hok)
    clear h2a h2b
    refine Gw.ctl rfl (fun w => stepG_seq (x := cl (ct 4 bMb)) (y := (ct 5 bMb))) ?_
    refine Gw.seg CC RR (f := 7) (N := fun a' u' => (a'.tmps.size = 33 ∧ a'.defers = [] ∧ a'.tmps.getD 5 undef = .int .u64 ((orL 0 (masks f ++ masks g) : Nat) : Int))) (Rt := fun a' u' => False) rfl (kn_nil rfl) rfl (by kernel_rfl) (fun _ _ _ _ h => h) (fun _ _ _ _ h => h) (fun t d => ?_) (fun A u7 hg h => ?_) fun _ _ _ _ _ h => h.elim
    · have HB : S2 (World.re u6 t d) B3 (.slice xa n1 c1) (.slice ya m1 d1) := hB3
      have HX : OwnC (World.re u6 t d) 0 xa n1 c1 (masks f) := hx
      have HY : OwnC (World.re u6 t d) 0 ya m1 d1 (masks g) := hy
      generalize World.re u6 t d = v at HB HX HY
      simp only [bMb, cl, cr, ct, co, Tryd.f7, Option.getD_some]
      obtain ⟨k0, k1, _, _⟩ := cfg_cell HB
      have K := cfg_blk v #[.slice xa n1 c1, .slice ya m1 d1] 39
      have hE := Lib.hid ((Ext.refl none v).alloc (.cells #[.slice xa n1 c1, .slice ya m1 d1] 39))
      have HM := Lib.hid (Mat.two K (HX.ext0 hE.out) (HY.ext0 hE.out))
      have hfl := Lib.hid (show [masks f, masks g].flatten = masks f ++ masks g from by simp)
      clear K HX HY hx hy hB3 HB E
      go_wp2_with fail
      refine (ConcatQ_any HM.out (by omega) hl1.out).mono ?_; rintro e w1 ⟨a5, n5, c5, rfl, o5, e5⟩
      rw [hfl.out] at o5
      obtain ⟨Q, hQ⟩ : ∃ Q, Q = masks f ++ masks g := ⟨_, rfl⟩
      rw [← hQ] at o5
      have HQ := Lib.hid hQ
      have hQl := Lib.hid (show ∀ x ∈ Q, x < 64 from by rw [hQ]; exact hlf.out)
      have HO5 := Lib.hid o5.crs
      have hn5 := Lib.hid o5.crs.len
      have hm5 := o5.crs.max
      have HE5 := Lib.hid (hE.out.trans e5)
      clear o5 e5 hQ
      go_wp2_with fail
      go_loop [5, 23] (fun q i => ∃ k : Nat, k ≤ n5 ∧ i = .int .i64 (k : Nat) ∧ q = .int .u64 ((orL 0 (Q.take k) : Nat) : Int)) (fun _ i => n5 - (intOf i).toNat)
      case atStart => exact ⟨0, by omega, rfl, rfl⟩
      case round =>
        obtain ⟨k, hk, rfl, rfl⟩ := hrel
        by_cases hlt : k < n5
        · have hltI : (k : Int) < (n5 : Int) := by omega
          obtain ⟨b6, off6, rfl, hc6⟩ := HO5.out.cell hlt
          have hst := Lib.hid (orL_step Q 0 k (by rw [hn5.out]; exact hlt))
          have hz1 := orL_take_lt hQl.out k
          have hz2 : Q.getD k 0 < 64 := getD_lt hQl.out (by rw [hn5.out]; exact hlt)
          obtain ⟨z, hz⟩ : ∃ z, z = orL 0 (Q.take k) := ⟨_, rfl⟩
          obtain ⟨y, hy⟩ : ∃ y, y = Q.getD k 0 := ⟨_, rfl⟩
          rw [← hz] at hst hz1 ⊢
          rw [← hy] at hst hz2 hc6
          clear hz hy
          have hor := bits_or z y hz1 hz2
          go_wp2_with fail
          go_round
          case rel => exact ⟨k + 1, by omega, by go_num, by rw [hst.out]⟩
          case measure => simp [intOf]; omega
        · obtain rfl : k = n5 := by omega
          have hfin := Lib.hid (show Q.take k = Q from List.take_of_length_le (by rw [hn5.out]; exact Nat.le_refl _))
          rw [hfin.out, show orL 0 Q = orL 0 (masks f ++ masks g) from by rw [HQ.out]]
          go_wp2_with fail
          exact ⟨⟨rfl, rfl, rfl⟩, HE5.out⟩
    have hA := h
    clear h
    obtain ⟨T, ds⟩ := A
    obtain ⟨hsz, hds, h_5⟩ := hA
    obtain rfl : ds = [] := hds
    try clear hds
    replace hsz : T.size = 33 := hsz
    revert h_5
    revert hsz
    revert T
    refine arr33 ?_
    intro e0 e1 e2 e3 e4 e5 e6 e7 e8 e9 e10 e11 e12 e13 e14 e15 e16 e17 e18 e19 e20 e21 e22 e23 e24 e25 e26 e27 e28 e29 e30 e31 e32 h_5
    have h_5 : e5 = .int .u64 ((orL 0 (masks f ++ masks g) : Nat) : Int) := h_5
    subst h_5
    replace hS : u.heap.size ≤ u7.heap.size := Nat.le_trans hS hg.size
    clear hg
    refine Gw.seg CC RR (f := 7) (cd := ct 5 bMb) (N := fun _ _ => False) (Rt := fun a' u' => RetM f g u.heap.size a'.tmps u') rfl (kn_nil rfl) rfl (by kernel_rfl) (fun _ _ _ _ h => h) (fun _ _ _ _ h => h) (fun t d => ?_) (fun _ _ _ h => h.elim) fun A u9 todo hd hg h => leave hd h
    · have HS : u.heap.size ≤ (World.re u7 t d).heap.size := hS
      generalize World.re u7 t d = v at HS
      simp only [bMb, cl, cr, ct, co, Tryd.f7, Option.getD_some]
      have hz1 := orL_lt (c := 0) (by omega) hlf.out
      obtain ⟨z, hz⟩ : ∃ z, z = orL 0 (masks f ++ masks g) := ⟨_, rfl⟩
      rw [← hz] at hz1 hyes ⊢
      clear hz
      go_wp2_with fail
      refine (members_any hz1).mono ?_; rintro e wA ⟨a8, n8, c8, rfl, o8, e8⟩
      go_wp2_with fail
      exact ⟨⟨_, _, _, rfl, by rw [hyes.out]; exact o8.mono HS⟩, e8⟩
  · obtain ⟨hx, hy⟩ : OwnC u2 0 xa n1 c1 (masks f) ∧ OwnC u2 0 ya m1 d1 (masks g) := by
      rcases hR with ⟨h1, _⟩ | ⟨_, h1, h2, _⟩
      · rw [hok] at h1; cases h1
      · exact ⟨h1, h2⟩
    clear hR
    subst he
    refine (?_ : ∀ A : Act, (A.tmps.size = 33 ∧ A.defers = [] ∧ A.tmps.getD 10 undef = .tuple #[.agg #[.slice xa n1 c1, .slice ya m1 d1], .iface 124 (.pointer (some a1))]) → Gw _ _ _ _ _ _ (G ((base 7).at A _) _)) _ ⟨rfl, rfl, rfl⟩
    intro A hA
    obtain ⟨T, ds⟩ := A
    obtain ⟨hsz, hds, h_10⟩ := hA
    obtain rfl : ds = [] := hds
    try clear hds
    replace hsz : T.size = 33 := hsz
    revert h_10
    revert hsz
    revert T
    refine arr33 ?_
    intro e0 e1 e2 e3 e4 e5 e6 e7 e8 e9 e10 e11 e12 e13 e14 e15 e16 e17 e18 e19 e20 e21 e22 e23 e24 e25 e26 e27 e28 e29 e30 e31 e32 h_10
    have h_10 : e10 = .tuple #[.agg #[.slice xa n1 c1, .slice ya m1 d1], .iface 124 (.pointer (some a1))] := h_10
    subst h_10
    refine Gw.oprest CC RR (f := 7) (N := fun a' u' => ∃ B3, (a'.tmps.size = 33 ∧ a'.defers = [] ∧ a'.tmps.getD 3 undef = .pointer (some ⟨B3, 0, none⟩) ∧ a'.tmps.getD 4 undef = .iface 124 (.pointer (some a1))) ∧ S2 u' B3 (.slice xa n1 c1) (.slice ya m1 d1)) rfl (kn_nil rfl) rfl (by kernel_rfl) (fun _ _ _ _ h => h) (fun t d => ?_) (fun A u3 hg hA => ?_)
    · generalize World.re u2 t d = v
      have K := cfg_blk v #[.slice xa n1 c1, .slice ya m1 d1] 41
      refine wpOps_rest 2 rfl ?_
      simp only [rMb1, bMb, cl, cr, ct, co, Tryd.f7, Option.getD_some, List.drop_succ_cons, List.drop_zero]
      go_wp2_with fail
      exact ⟨⟨_, ⟨rfl, rfl, rfl, rfl⟩, (show S2 _ _ _ _ from K)⟩, (Ext.refl _ _).alloc _⟩
    obtain ⟨B3, hA, hB3⟩ := hA
    obtain ⟨T, ds⟩ := A
    obtain ⟨hsz, hds, h_3, h_4⟩ := hA
    obtain rfl : ds = [] := hds
    try clear hds
    replace hsz : T.size = 33 := hsz
    revert h_3 h_4
    revert hsz
    revert T
    refine arr33 ?_
    intro e0 e1 e2 e3 e4 e5 e6 e7 e8 e9 e10 e11 e12 e13 e14 e15 e16 e17 e18 e19 e20 e21 e22 e23 e24 e25 e26 e27 e28 e29 e30 e31 e32 h_3 h_4
    have h_3 : e3 = .pointer (some ⟨B3, 0, none⟩) := h_3
    subst h_3
    have h_4 : e4 = .iface 124 (.pointer (some a1)) := h_4
    subst h_4
    replace hS : u.heap.size ≤ u3.heap.size := Nat.le_trans hS hg.size
    replace E : Errs u3 a0 a1 := E.gx hg
    replace hx := hg.ownC hx
    replace hy := hg.ownC hy
    clear hg
    refine Gw.ctl rfl (fun w => stepG_seq (x := cl (ct 2 bMb)) (y := ct 3 bMb)) ?_
    rw [mb2]
    refine Gw.ctl rfl (fun w => stepG_seq) ?_
    refine Gw.ctl rfl (fun w => stepG_region) ?_
    rw [show List.range rMb2.size = [0, 1, 2] from rfl]
    refine Gw.mv (oo := rMb2.getD 0 default) rfl (.inl rfl) rfl (bkn _) ?_
    refine (?_ : ∀ A : Act, (A.tmps.size = 33 ∧ A.defers = [] ∧ A.tmps.getD 3 undef = .pointer (some ⟨B3, 0, none⟩) ∧ A.tmps.getD 13 undef = .iface 124 (.pointer (some a1))) → Gw _ _ _ _ _ _ (G ((base 7).at A _) _)) _ ⟨rfl, rfl, rfl, rfl⟩
    intro A hA
    obtain ⟨T, ds⟩ := A
    obtain ⟨hsz, hds, h_3, h_13⟩ := hA
    obtain rfl : ds = [] := hds
    try clear hds
    replace hsz : T.size = 33 := hsz
    revert h_3 h_13
    revert hsz
    revert T
    refine arr33 ?_
    intro e0 e1 e2 e3 e4 e5 e6 e7 e8 e9 e10 e11 e12 e13 e14 e15 e16 e17 e18 e19 e20 e21 e22 e23 e24 e25 e26 e27 e28 e29 e30 e31 e32 h_3 h_13
    have h_3 : e3 = .pointer (some ⟨B3, 0, none⟩) := h_3
    subst h_3
    have h_13 : e13 = .iface 124 (.pointer (some a1)) := h_13
    subst h_13
    refine Gw.gcall (oo := rMb2.getD 1 default) (g := 18) (args := #[.tmp 13]) rfl rfl (bkn _) rfl Tryd.func18 nmCm rfl (vals := #[.iface 124 (.pointer (some a1))]) (by simp [Act.eval]) (complete_other_g E) fun X5 v u4 hg hv => ?_
    subst hv
    refine (?_ : ∀ A : Act, (A.tmps.size = 33 ∧ A.defers = [] ∧ A.tmps.getD 3 undef = .pointer (some ⟨B3, 0, none⟩) ∧ A.tmps.getD 14 undef = .bool true) → Gw _ _ _ _ _ _ (G ((base 7).at A _) _)) _ ⟨rfl, rfl, rfl, rfl⟩
    intro A hA
    obtain ⟨T, ds⟩ := A
    obtain ⟨hsz, hds, h_3, h_14⟩ := hA
    obtain rfl : ds = [] := hds
    try clear hds
    replace hsz : T.size = 33 := hsz
    revert h_3 h_14
    revert hsz
    revert T
    refine arr33 ?_
    intro e0 e1 e2 e3 e4 e5 e6 e7 e8 e9 e10 e11 e12 e13 e14 e15 e16 e17 e18 e19 e20 e21 e22 e23 e24 e25 e26 e27 e28 e29 e30 e31 e32 h_3 h_14
    have h_3 : e3 = .pointer (some ⟨B3, 0, none⟩) := h_3
    subst h_3
    have h_14 : e14 = .bool true := h_14
    subst h_14
    replace hS : u.heap.size ≤ u4.heap.size := Nat.le_trans hS hg.size
    replace E : Errs u4 a0 a1 := E.gx hg
    replace hx := hg.ownC hx
    replace hy := hg.ownC hy
    replace hB3 := hg.s2 hB3
    clear hg
    refine Gw.oprest CC RR (f := 7) (N := fun a' u' => (a'.tmps.size = 33 ∧ a'.defers = [] ∧ a'.tmps.getD 3 undef = .pointer (some ⟨B3, 0, none⟩) ∧ a'.tmps.getD 15 undef = .bool false)) rfl (kn_nil rfl) rfl (by kernel_rfl) (fun _ _ _ _ h => h) (fun t d => ?_) (fun A u5 hg hA => ?_)
    · generalize World.re u4 t d = v
      refine wpOps_rest 2 rfl ?_
      simp only [rMb2, bMb, cl, cr, ct, co, Tryd.f7, Option.getD_some, List.drop_succ_cons, List.drop_zero]
      go_wp2_with fail
      exact ⟨⟨rfl, rfl, rfl, rfl⟩, Ext.refl _ _⟩
    obtain ⟨T, ds⟩ := A
    obtain ⟨hsz, hds, h_3, h_15⟩ := hA
    obtain rfl : ds = [] := hds
    try clear hds
    replace hsz : T.size = 33 := hsz
    revert h_3 h_15
    revert hsz
    revert T
    refine arr33 ?_
    intro e0 e1 e2 e3 e4 e5 e6 e7 e8 e9 e10 e11 e12 e13 e14 e15 e16 e17 e18 e19 e20 e21 e22 e23 e24 e25 e26 e27 e28 e29 e30 e31 e32 h_3 h_15
    have h_3 : e3 = .pointer (some ⟨B3, 0, none⟩) := h_3
    subst h_3
    have h_15 : e15 = .bool false := h_15
    subst h_15
    replace hS : u.heap.size ≤ u5.heap.size := Nat.le_trans hS hg.size
    replace E : Errs u5 a0 a1 := E.gx hg
    replace hx := hg.ownC hx
    replace hy := hg.ownC hy
    replace hB3 := hg.s2 hB3
    clear hg
    refine Gw.ctl rfl (fun w => stepG_cond (t := false) rfl) ?_
    refine Gw.ctl rfl (fun w => stepG_skip) ?_
    refine Gw.ctl rfl (fun w => stepG_seq (x := cl (ct 3 bMb)) (y := (ct 4 bMb))) ?_
    refine Gw.seg CC RR (f := 7) (N := fun a' u' => (a'.tmps.size = 33 ∧ a'.defers = [] ∧ a'.tmps.getD 3 undef = .pointer (some ⟨B3, 0, none⟩) ∧ a'.tmps.getD 5 undef = .int .u64 0)) (Rt := fun a' u' => False) rfl (kn_nil rfl) rfl (by kernel_rfl) (fun _ _ _ _ h => h) (fun _ _ _ _ h => h) (fun t d => ?_) (fun A u6 hg h => ?_) fun _ _ _ _ _ h => h.elim
    · generalize World.re u5 t d = v
      simp only [bMb, cl, cr, ct, co, Tryd.f7, Option.getD_some]
      go_wp2_with fail
      exact ⟨⟨rfl, rfl, rfl, rfl⟩, Ext.refl _ _⟩
    have hA := h
    clear h
    obtain ⟨T, ds⟩ := A
    obtain ⟨hsz, hds, h_3, h_5⟩ := hA
    obtain rfl : ds = [] := hds
    try clear hds
    replace hsz : T.size = 33 := hsz
    revert h_3 h_5
    revert hsz
    revert T
    refine arr33 ?_
    intro e0 e1 e2 e3 e4 e5 e6 e7 e8 e9 e10 e11 e12 e13 e14 e15 e16 e17 e18 e19 e20 e21 e22 e23 e24 e25 e26 e27 e28 e29 e30 e31 e32 h_3 h_5
    have h_3 : e3 = .pointer (some ⟨B3, 0, none⟩) := h_3
    subst h_3
    have h_5 : e5 = .int .u64 0 := h_5
    subst h_5
    replace hS : u.heap.size ≤ u6.heap.size := Nat.le_trans hS hg.size
    replace E : Errs u6 a0 a1 := E.gx hg
    replace hx := hg.ownC hx
    replace hy := hg.ownC hy
    replace hB3 := hg.s2 hB3
    clear hg
    obtain ⟨h2a, h2b⟩ := ok2_fam (okC_ok2 hok)
    have hlf := Lib.hid (show ∀ x ∈ masks f ++ masks g, x < 64 from fun x hx => (List.mem_append.1 hx).elim (masks_lt h2a x) (masks_lt h2b x))
    have hl1 := Lib.hid (show ∀ r ∈ [masks f, masks g], r.length ≤ 20 from fun r hr => by
      simp only [List.mem_cons, List.not_mem_nil, or_false] at hr
      rcases hr with rfl | rfl
      · rw [masks_len]; exact famB_len h2a
      · rw [masks_len]; exact famB_len h2b)
    have hyes := Lib.hid (cmL_yes hok)
    clear h2a h2b
    refine Gw.ctl rfl (fun w => stepG_seq (x := cl (ct 4 bMb)) (y := (ct 5 bMb))) ?_
    refine Gw.seg CC RR (f := 7) (N := fun a' u' => (a'.tmps.size = 33 ∧ a'.defers = [] ∧ a'.tmps.getD 5 undef = .int .u64 ((orL 0 (masks f ++ masks g) : Nat) : Int))) (Rt := fun a' u' => False) rfl (kn_nil rfl) rfl (by kernel_rfl) (fun _ _ _ _ h => h) (fun _ _ _ _ h => h) (fun t d => ?_) (fun A u7 hg h => ?_) fun _ _ _ _ _ h => h.elim
    · have HB : S2 (World.re u6 t d) B3 (.slice xa n1 c1) (.slice ya m1 d1) := hB3
      have HX : OwnC (World.re u6 t d) 0 xa n1 c1 (masks f) := hx
      have HY : OwnC (World.re u6 t d) 0 ya m1 d1 (masks g) := hy
      generalize World.re u6 t d = v at HB HX HY
      simp only [bMb, cl, cr, ct, co, Tryd.f7, Option.getD_some]
      obtain ⟨k0, k1, _, _⟩ := cfg_cell HB
      have K := cfg_blk v #[.slice xa n1 c1, .slice ya m1 d1] 39
      have hE := Lib.hid ((Ext.refl none v).alloc (.cells #[.slice xa n1 c1, .slice ya m1 d1] 39))
      have HM := Lib.hid (Mat.two K (HX.ext0 hE.out) (HY.ext0 hE.out))
      have hfl := Lib.hid (show [masks f, masks g].flatten = masks f ++ masks g from by simp)
      clear K HX HY hx hy hB3 HB E
      go_wp2_with fail
      refine (ConcatQ_any HM.out (by omega) hl1.out).mono ?_; rintro e w1 ⟨a5, n5, c5, rfl, o5, e5⟩
      rw [hfl.out] at o5
      obtain ⟨Q, hQ⟩ : ∃ Q, Q = masks f ++ masks g := ⟨_, rfl⟩
      rw [← hQ] at o5
      have HQ := Lib.hid hQ
      have hQl := Lib.hid (show ∀ x ∈ Q, x < 64 from by rw [hQ]; exact hlf.out)
      have HO5 := Lib.hid o5.crs
      have hn5 := Lib.hid o5.crs.len
      have hm5 := o5.crs.max
      have HE5 := Lib.hid (hE.out.trans e5)
      clear o5 e5 hQ
      go_wp2_with fail
      go_loop [5, 23] (fun q i => ∃ k : Nat, k ≤ n5 ∧ i = .int .i64 (k : Nat) ∧ q = .int .u64 ((orL 0 (Q.take k) : Nat) : Int)) (fun _ i => n5 - (intOf i).toNat)
      case atStart => exact ⟨0, by omega, rfl, rfl⟩
      case round =>
        obtain ⟨k, hk, rfl, rfl⟩ := hrel
        by_cases hlt : k < n5
        · have hltI : (k : Int) < (n5 : Int) := by omega
          obtain ⟨b6, off6, rfl, hc6⟩ := HO5.out.cell hlt
          have hst := Lib.hid (orL_step Q 0 k (by rw [hn5.out]; exact hlt))
          have hz1 := orL_take_lt hQl.out k
          have hz2 : Q.getD k 0 < 64 := getD_lt hQl.out (by rw [hn5.out]; exact hlt)
          obtain ⟨z, hz⟩ : ∃ z, z = orL 0 (Q.take k) := ⟨_, rfl⟩
          obtain ⟨y, hy⟩ : ∃ y, y = Q.getD k 0 := ⟨_, rfl⟩
          rw [← hz] at hst hz1 ⊢
          rw [← hy] at hst hz2 hc6
          clear hz hy
          have hor := bits_or z y hz1 hz2
          go_wp2_with fail
          go_round
          case rel => exact ⟨k + 1, by omega, by go_num, by rw [hst.out]⟩
          case measure => simp [intOf]; omega
        · obtain rfl : k = n5 := by omega
          have hfin := Lib.hid (show Q.take k = Q from List.take_of_length_le (by rw [hn5.out]; exact Nat.le_refl _))
          rw [hfin.out, show orL 0 Q = orL 0 (masks f ++ masks g) from by rw [HQ.out]]
          go_wp2_with fail
          exact ⟨⟨rfl, rfl, rfl⟩, HE5.out⟩
    have hA := h
    clear h
    obtain ⟨T, ds⟩ := A
    obtain ⟨hsz, hds, h_5⟩ := hA
    obtain rfl : ds = [] := hds
    try clear hds
    replace hsz : T.size = 33 := hsz
    revert h_5
    revert hsz
    revert T
    refine arr33 ?_
    intro e0 e1 e2 e3 e4 e5 e6 e7 e8 e9 e10 e11 e12 e13 e14 e15 e16 e17 e18 e19 e20 e21 e22 e23 e24 e25 e26 e27 e28 e29 e30 e31 e32 h_5
    have h_5 : e5 = .int .u64 ((orL 0 (masks f ++ masks g) : Nat) : Int) := h_5
    subst h_5
    replace hS : u.heap.size ≤ u7.heap.size := Nat.le_trans hS hg.size
    clear hg
    refine Gw.seg CC RR (f := 7) (cd := ct 5 bMb) (N := fun _ _ => False) (Rt := fun a' u' => RetM f g u.heap.size a'.tmps u') rfl (kn_nil rfl) rfl (by kernel_rfl) (fun _ _ _ _ h => h) (fun _ _ _ _ h => h) (fun t d => ?_) (fun _ _ _ h => h.elim) fun A u9 todo hd hg h => leave hd h
    · have HS : u.heap.size ≤ (World.re u7 t d).heap.size := hS
      generalize World.re u7 t d = v at HS
      simp only [bMb, cl, cr, ct, co, Tryd.f7, Option.getD_some]
      have hz1 := orL_lt (c := 0) (by omega) hlf.out
      obtain ⟨z, hz⟩ : ∃ z, z = orL 0 (masks f ++ masks g) := ⟨_, rfl⟩
      rw [← hz] at hz1 hyes ⊢
      clear hz
      go_wp2_with fail
      refine (members_any hz1).mono ?_; rintro e wA ⟨a8, n8, c8, rfl, o8, e8⟩
      go_wp2_with fail
      exact ⟨⟨_, _, _, rfl, by rw [hyes.out]; exact o8.mono HS⟩, e8⟩
end Go.Proofs.YtnifgfnhcjhodaaDoor
