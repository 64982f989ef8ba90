/- The walk of laws.FnVerifySound. Condition: the argument is a slice of bytes. -/
import Derived.Test.YtnifgfnhcjhodaaQE
set_option linter.unusedVariables false
set_option linter.unusedSimpArgs false
namespace Go.Proofs.Ytnifgfnhcjhodaa
open Go.Conc Go.RowKit

noncomputable def bVS : Code := Try.f4.body.getD .skip
noncomputable def rVS4 : Array Oper := co (cl (ct 3 bVS))
noncomputable def rVS7 : Array Oper := co (cl (ct 5 bVS))
set_option maxRecDepth 10000 in
theorem arr33 {motive : Array Value → Prop} (k : ∀ e0 e1 e2 e3 e4 e5 e6 e7 e8 e9 e10 e11 e12 e13 e14 e15 e16 e17 e18 e19 e20 e21 e22 e23 e24 e25 e26 e27 e28 e29 e30 e31 e32 : Value, motive #[e0, e1, e2, e3, e4, e5, e6, e7, e8, e9, e10, e11, e12, e13, e14, e15, e16, e17, e18, e19, e20, e21, e22, e23, e24, e25, e26, e27, e28, e29, e30, e31, e32]) : ∀ T : Array Value, T.size = 33 → motive T := by
  intro T h
  obtain ⟨l⟩ := T
  have h : l.length = 33 := h
  obtain ⟨e0, l0, rfl, h0⟩ := lcons h
  obtain ⟨e1, l1, rfl, h1⟩ := lcons h0
  obtain ⟨e2, l2, rfl, h2⟩ := lcons h1
  obtain ⟨e3, l3, rfl, h3⟩ := lcons h2
  obtain ⟨e4, l4, rfl, h4⟩ := lcons h3
  obtain ⟨e5, l5, rfl, h5⟩ := lcons h4
  obtain ⟨e6, l6, rfl, h6⟩ := lcons h5
  obtain ⟨e7, l7, rfl, h7⟩ := lcons h6
  obtain ⟨e8, l8, rfl, h8⟩ := lcons h7
  obtain ⟨e9, l9, rfl, h9⟩ := lcons h8
  obtain ⟨e10, l10, rfl, h10⟩ := lcons h9
  obtain ⟨e11, l11, rfl, h11⟩ := lcons h10
  obtain ⟨e12, l12, rfl, h12⟩ := lcons h11
  obtain ⟨e13, l13, rfl, h13⟩ := lcons h12
  obtain ⟨e14, l14, rfl, h14⟩ := lcons h13
  obtain ⟨e15, l15, rfl, h15⟩ := lcons h14
  obtain ⟨e16, l16, rfl, h16⟩ := lcons h15
  obtain ⟨e17, l17, rfl, h17⟩ := lcons h16
  obtain ⟨e18, l18, rfl, h18⟩ := lcons h17
  obtain ⟨e19, l19, rfl, h19⟩ := lcons h18
  obtain ⟨e20, l20, rfl, h20⟩ := lcons h19
  obtain ⟨e21, l21, rfl, h21⟩ := lcons h20
  obtain ⟨e22, l22, rfl, h22⟩ := lcons h21
  obtain ⟨e23, l23, rfl, h23⟩ := lcons h22
  obtain ⟨e24, l24, rfl, h24⟩ := lcons h23
  obtain ⟨e25, l25, rfl, h25⟩ := lcons h24
  obtain ⟨e26, l26, rfl, h26⟩ := lcons h25
  obtain ⟨e27, l27, rfl, h27⟩ := lcons h26
  obtain ⟨e28, l28, rfl, h28⟩ := lcons h27
  obtain ⟨e29, l29, rfl, h29⟩ := lcons h28
  obtain ⟨e30, l30, rfl, h30⟩ := lcons h29
  obtain ⟨e31, l31, rfl, h31⟩ := lcons h30
  obtain ⟨e32, l32, rfl, h32⟩ := lcons h31
  obtain rfl := List.length_eq_zero_iff.1 h32
  exact k e0 e1 e2 e3 e4 e5 e6 e7 e8 e9 e10 e11 e12 e13 e14 e15 e16 e17 e18 e19 e20 e21 e22 e23 e24 e25 e26 e27 e28 e29 e30 e31 e32

theorem ver_int {f g : List (List Int)} {cert : List Int} (h : verL f g cert = true) : intL f g = true := by
  unfold verL at h
  unfold intL
  rw [Bool.and_eq_true, Bool.and_eq_true, decide_eq_true_eq] at h
  obtain ⟨h1, h2, h3⟩ := h
  rw [Bool.and_eq_true]
  refine ⟨h1, ?_⟩
  rw [Bool.not_eq_true']
  cases hc : ((rowsL (rdF f) (rdF g)).flatten.contains 0) with
  | false => rfl
  | true =>
    exfalso
    have hm := List.contains_iff_mem.1 hc
    obtain ⟨j, hj, e⟩ := List.getElem_of_mem hm
    have hj2 : j < cert.length := by rw [h2, ← flat_len]; exact hj
    have := vk_no hj2 (q := flatL f g) (cert := cert) (by
      have e2 : (flatL f g).getD j 0 = 0 := by unfold flatL; rw [List.getD_eq_getElem?_getD, List.getElem?_eq_getElem hj, e]; rfl
      rw [e2]; unfold has; simp)
    rw [this] at h3
    cases h3
theorem not_run {a : Act} {w : World} {o : Oper} {x : Operand} {p : Bool} (h : o.op = .unOp .not 4 x) (hx : a.eval x = .bool p) :
    (execOp a.eval o).run Try.prog w = .ok (.value (.bool (!p))) w ∧ (execOp a.eval o).events Try.prog w #[] = #[] := by
  constructor <;> unfold execOp <;> simp only [h, hx] <;> simp [go_sem]
theorem nmVer : (Try.f16.name == "runtime.NumGoroutine") = false := by kernel_rfl
set_option maxRecDepth 20000 in
set_option maxHeartbeats 4000000 in
theorem FnVerifySound_g {a : Option Addr} {n c : Nat} {u : World} (h : Bytes u a n c) : GLaw Try.prog 4 #[.slice a n c] u := by
  have hb := h
  clear h
  refine GLaw.of (cd := bVS) Try.func4 rfl ?_
  have leave : ∀ {X : Nat → Prop} {u1 : World} {a' : Act} {todo : List Item}, a'.defers = [] → a'.tmps.getD 2 undef = .bool true → Gw Try.prog (fun _ => False) u (QEnd Try.prog 4 u) X u1 (G { (base 4).at a' todo with mode := .returning } []) := fun hd h2 =>
    Gw.fin Try.func4 hd (by rw [← h2]; simp [results, Try.f4])
  refine Gw.ctl rfl (fun w => stepG_seq (x := cl (ct 0 bVS)) (y := (ct 1 bVS))) ?_
  refine Gw.seg CC RR (f := 4) (N := fun a' u' => (a'.tmps.size = 33 ∧ a'.defers = [] ∧ a'.tmps.getD 0 undef = .slice a n c ∧ a'.tmps.getD 2 undef = .bool false)) (Rt := fun a' u' => False) rfl (kn_nil rfl) rfl (by kernel_rfl) (fun _ _ _ _ h => h) (fun _ _ _ _ h => h) (fun t d => ?_) (fun A u1 hg h => ?_) fun _ _ _ _ _ h => h.elim
  · generalize World.re u t d = v
    simp only [bVS, cl, cr, ct, co, Try.f4, Option.getD_some, List.size_toArray, List.length_cons, List.length_nil, Nat.reduceAdd, Nat.reduceSub, Array.replicate_succ, Array.replicate_zero, List.push_toArray, List.append_toArray, List.nil_append, List.cons_append]
    go_wp2_with fail
    exact ⟨⟨rfl, rfl, rfl, rfl⟩, Ext.refl _ _⟩
  have hA := h
  clear h
  obtain ⟨T, ds⟩ := A
  obtain ⟨hsz, hds, h_0, h_2⟩ := hA
  obtain rfl : ds = [] := hds
  try clear hds
  replace hsz : T.size = 33 := hsz
  revert h_0 h_2
  revert hsz
  revert T
  refine arr33 ?_
  intro e0 e1 e2 e3 e4 e5 e6 e7 e8 e9 e10 e11 e12 e13 e14 e15 e16 e17 e18 e19 e20 e21 e22 e23 e24 e25 e26 e27 e28 e29 e30 e31 e32 h_0 h_2
  have h_0 : e0 = .slice a n c := h_0
  subst h_0
  have h_2 : e2 = .bool false := h_2
  subst h_2
  replace hb : Bytes u1 a n c := by have := hb.ext hg.ext; exact this
  clear hg
  refine Gw.ctl rfl (fun w => stepG_seq (x := cl (ct 1 bVS)) (y := (ct 2 bVS))) ?_
  refine Gw.seg CC RR (f := 4) (N := fun a' u' => (a'.tmps.size = 33 ∧ a'.defers = [] ∧ a'.tmps.getD 0 undef = .slice a n c ∧ a'.tmps.getD 2 undef = .bool false)) (Rt := fun a' u' => a'.tmps.getD 2 undef = .bool true) rfl (kn_nil rfl) rfl (by kernel_rfl) (fun _ _ _ _ h => h) (fun _ _ _ _ h => h) (fun t d => ?_) (fun A u2 hg h => ?_) (fun A u2 todo hd hg h => ?_)
  · generalize World.re u1 t d = v
    simp only [bVS, cl, cr, ct, co, Try.f4, Option.getD_some]
    rcases Nat.lt_or_ge 1048576 n with hl | hl
    · have hlI : (1048576 : Int) < (n : Int) := by omega
      go_wp2_with fail
      exact ⟨rfl, Ext.refl _ _⟩
    · have hlI : ¬ (1048576 : Int) < (n : Int) := by omega
      go_wp2_with fail
      exact ⟨⟨rfl, rfl, rfl, rfl⟩, Ext.refl _ _⟩
  rotate_left
  · exact leave hd h
  have hA := h
  clear h
  obtain ⟨T, ds⟩ := A
  obtain ⟨hsz, hds, h_0, h_2⟩ := hA
  obtain rfl : ds = [] := hds
  try clear hds
  replace hsz : T.size = 33 := hsz
  revert h_0 h_2
  revert hsz
  revert T
  refine arr33 ?_
  intro e0 e1 e2 e3 e4 e5 e6 e7 e8 e9 e10 e11 e12 e13 e14 e15 e16 e17 e18 e19 e20 e21 e22 e23 e24 e25 e26 e27 e28 e29 e30 e31 e32 h_0 h_2
  have h_0 : e0 = .slice a n c := h_0
  subst h_0
  have h_2 : e2 = .bool false := h_2
  subst h_2
  replace hb : Bytes u2 a n c := by have := hb.ext hg.ext; exact this
  clear hg
  refine Gw.ctl rfl (fun w => stepG_seq (x := cl (ct 2 bVS)) (y := (ct 3 bVS))) ?_
  refine Gw.seg CC RR (f := 4) (N := fun a' u' => ∃ a1 n1 c1 f a2 n2 c2 g a3 n3 c3 xs, (a'.tmps.size = 33 ∧ a'.defers = [] ∧ a'.tmps.getD 2 undef = .bool false ∧ a'.tmps.getD 3 undef = .slice a1 n1 c1 ∧ a'.tmps.getD 4 undef = .slice a2 n2 c2 ∧ a'.tmps.getD 5 undef = .slice a3 n3 c3) ∧ Fam u' a1 n1 f ∧ Fam u' a2 n2 g ∧ Ints u' a3 n3 xs) (Rt := fun a' u' => False) rfl (kn_nil rfl) rfl (by kernel_rfl) (fun _ _ _ _ h => h) (fun _ _ _ _ h => h) (fun t d => ?_) (fun A u3 hg h => ?_) fun _ _ _ _ _ h => h.elim
  · have H : Bytes (World.re u2 t d) a n c := hb
    generalize World.re u2 t d = v at H
    simp only [bVS, cl, cr, ct, co, Try.f4, Option.getD_some]
    go_wp2_with fail
    refine (DrawIntersectVerify_any H).mono ?_; rintro e w1 ⟨a1, n1, c1, f, a2, n2, c2, g, a3, n3, c3, xs, rfl, hf, hn1, hg, hn2, hx, hn3, he⟩
    go_wp2_with fail
    exact ⟨⟨_, _, _, _, _, _, _, _, _, _, _, _, ⟨rfl, rfl, rfl, rfl, rfl, rfl⟩, hf.1, hg.1, hx⟩, he⟩
  obtain ⟨a1, n1, c1, f, a2, n2, c2, g, a3, n3, c3, xs, hA, hf, hg2, hx⟩ := h
  obtain ⟨T, ds⟩ := A
  obtain ⟨hsz, hds, h_2, h_3, h_4, h_5⟩ := hA
  obtain rfl : ds = [] := hds
  try clear hds
  replace hsz : T.size = 33 := hsz
  revert h_2 h_3 h_4 h_5
  revert hsz
  revert T
  refine arr33 ?_
  intro e0 e1 e2 e3 e4 e5 e6 e7 e8 e9 e10 e11 e12 e13 e14 e15 e16 e17 e18 e19 e20 e21 e22 e23 e24 e25 e26 e27 e28 e29 e30 e31 e32 h_2 h_3 h_4 h_5
  have h_2 : e2 = .bool false := h_2
  subst h_2
  have h_3 : e3 = .slice a1 n1 c1 := h_3
  subst h_3
  have h_4 : e4 = .slice a2 n2 c2 := h_4
  subst h_4
  have h_5 : e5 = .slice a3 n3 c3 := h_5
  subst h_5
  clear hb hg
  obtain ⟨q, hq⟩ : ∃ q, verL f g xs = q := ⟨_, rfl⟩
  refine Gw.ctl rfl (fun w => stepG_seq (x := .region 4 rVS4 false) (y := (ct 4 bVS))) ?_
  refine Gw.ctl rfl (fun w => stepG_region) ?_
  rw [show List.range rVS4.size = [0, 1, 2, 3, 4] from rfl]
  refine Gw.mv (oo := rVS4.getD 0 default) rfl (.inl rfl) rfl (bkn _) ?_
  refine Gw.mv (oo := rVS4.getD 1 default) rfl (.inl rfl) rfl (bkn _) ?_
  refine Gw.mv (oo := rVS4.getD 2 default) rfl (.inl rfl) rfl (bkn _) ?_
  refine (?_ : ∀ A : Act, (A.tmps.size = 33 ∧ A.defers = [] ∧ A.tmps.getD 2 undef = .bool false ∧ A.tmps.getD 3 undef = .slice a1 n1 c1 ∧ A.tmps.getD 4 undef = .slice a2 n2 c2 ∧ A.tmps.getD 5 undef = .slice a3 n3 c3 ∧ A.tmps.getD 16 undef = .slice a1 n1 c1 ∧ A.tmps.getD 17 undef = .slice a2 n2 c2 ∧ A.tmps.getD 18 undef = .slice a3 n3 c3) → Gw _ _ _ _ _ _ (G ((base 4).at A _) _)) _ ⟨rfl, rfl, rfl, rfl, rfl, rfl, rfl, rfl, rfl⟩
  intro A hA
  obtain ⟨T, ds⟩ := A
  obtain ⟨hsz, hds, h_2, h_3, h_4, h_5, h_16, h_17, h_18⟩ := hA
  obtain rfl : ds = [] := hds
  try clear hds
  replace hsz : T.size = 33 := hsz
  revert h_2 h_3 h_4 h_5 h_16 h_17 h_18
  revert hsz
  revert T
  refine arr33 ?_
  intro e0 e1 e2 e3 e4 e5 e6 e7 e8 e9 e10 e11 e12 e13 e14 e15 e16 e17 e18 e19 e20 e21 e22 e23 e24 e25 e26 e27 e28 e29 e30 e31 e32 h_2 h_3 h_4 h_5 h_16 h_17 h_18
  have h_2 : e2 = .bool false := h_2
  subst h_2
  have h_3 : e3 = .slice a1 n1 c1 := h_3
  subst h_3
  have h_4 : e4 = .slice a2 n2 c2 := h_4
  subst h_4
  have h_5 : e5 = .slice a3 n3 c3 := h_5
  subst h_5
  have h_16 : e16 = .slice a1 n1 c1 := h_16
  subst h_16
  have h_17 : e17 = .slice a2 n2 c2 := h_17
  subst h_17
  have h_18 : e18 = .slice a3 n3 c3 := h_18
  subst h_18
  refine Gw.gcall (oo := rVS4.getD 3 default) (g := 16) (args := #[.tmp 16, .tmp 17, .tmp 18]) rfl rfl (bkn _) rfl Try.func16 nmVer rfl (vals := #[.slice a1 n1 c1, .slice a2 n2 c2, .slice a3 n3 c3]) (by simp [Act.eval]) (IntersectVerify_g hf hg2 hx) fun X4 v u4 hg v_ => ?_
  rw [hq] at v_
  subst v_
  refine Gw.mv (oo := rVS4.getD 4 default) rfl (.inr rfl) rfl (bkn _) ?_
  refine Gw.ctl rfl (fun w => stepG_region_end) ?_
  refine (?_ : ∀ A : Act, (A.tmps.size = 33 ∧ A.defers = [] ∧ A.tmps.getD 2 undef = .bool false ∧ A.tmps.getD 3 undef = .slice a1 n1 c1 ∧ A.tmps.getD 4 undef = .slice a2 n2 c2 ∧ A.tmps.getD 5 undef = .slice a3 n3 c3 ∧ A.tmps.getD 6 undef = .bool q) → Gw _ _ _ _ _ _ (G ((base 4).at A _) _)) _ ⟨rfl, rfl, rfl, rfl, rfl, rfl, rfl⟩
  intro A hA
  obtain ⟨T, ds⟩ := A
  obtain ⟨hsz, hds, h_2, h_3, h_4, h_5, h_6⟩ := hA
  obtain rfl : ds = [] := hds
  try clear hds
  replace hsz : T.size = 33 := hsz
  revert h_2 h_3 h_4 h_5 h_6
  revert hsz
  revert T
  refine arr33 ?_
  intro e0 e1 e2 e3 e4 e5 e6 e7 e8 e9 e10 e11 e12 e13 e14 e15 e16 e17 e18 e19 e20 e21 e22 e23 e24 e25 e26 e27 e28 e29 e30 e31 e32 h_2 h_3 h_4 h_5 h_6
  have h_2 : e2 = .bool false := h_2
  subst h_2
  have h_3 : e3 = .slice a1 n1 c1 := h_3
  subst h_3
  have h_4 : e4 = .slice a2 n2 c2 := h_4
  subst h_4
  have h_5 : e5 = .slice a3 n3 c3 := h_5
  subst h_5
  have h_6 : e6 = .bool q := h_6
  subst h_6
  replace hf : Fam u4 a1 n1 f := hg.fam hf
  replace hg2 : Fam u4 a2 n2 g := hg.fam hg2
  replace hx : Ints u4 a3 n3 xs := hg.ints hx
  clear hg
  refine Gw.ctl rfl (fun w => stepG_seq (x := cl (ct 4 bVS)) (y := (ct 5 bVS))) ?_
  refine Gw.seg CC RR (f := 4) (N := fun a' u' => (a'.tmps.size = 33 ∧ a'.defers = [] ∧ a'.tmps.getD 2 undef = .bool false ∧ a'.tmps.getD 3 undef = .slice a1 n1 c1 ∧ a'.tmps.getD 4 undef = .slice a2 n2 c2 ∧ a'.tmps.getD 5 undef = .slice a3 n3 c3 ∧ a'.tmps.getD 6 undef = .bool q)) (Rt := fun a' u' => False) rfl (kn_nil rfl) rfl (by kernel_rfl) (fun _ _ _ _ h => h) (fun _ _ _ _ h => h) (fun t d => ?_) (fun A u5 hg h => ?_) fun _ _ _ _ _ h => h.elim
  · have H1 : Fam (World.re u4 t d) a1 n1 f := hf
    have H2 : Fam (World.re u4 t d) a2 n2 g := hg2
    have H3 : Ints (World.re u4 t d) a3 n3 xs := hx
    generalize World.re u4 t d = v at H1 H2 H3
    simp only [bVS, cl, cr, ct, co, Try.f4, Option.getD_some]
    have HQ := Lib.hid hq
    clear hq hf hg2 hx
    go_wp2_with fail
    refine (sIntersectVerify_is H1 H2 H3 HQ.out).mono ?_; rintro e w1 ⟨rfl, e1⟩
    go_wp2_with fail
    exact ⟨⟨rfl, rfl, rfl, rfl, rfl, rfl, rfl⟩, e1⟩
  have hA := h
  clear h
  obtain ⟨T, ds⟩ := A
  obtain ⟨hsz, hds, h_2, h_3, h_4, h_5, h_6⟩ := hA
  obtain rfl : ds = [] := hds
  try clear hds
  replace hsz : T.size = 33 := hsz
  revert h_2 h_3 h_4 h_5 h_6
  revert hsz
  revert T
  refine arr33 ?_
  intro e0 e1 e2 e3 e4 e5 e6 e7 e8 e9 e10 e11 e12 e13 e14 e15 e16 e17 e18 e19 e20 e21 e22 e23 e24 e25 e26 e27 e28 e29 e30 e31 e32 h_2 h_3 h_4 h_5 h_6
  have h_2 : e2 = .bool false := h_2
  subst h_2
  have h_3 : e3 = .slice a1 n1 c1 := h_3
  subst h_3
  have h_4 : e4 = .slice a2 n2 c2 := h_4
  subst h_4
  have h_5 : e5 = .slice a3 n3 c3 := h_5
  subst h_5
  have h_6 : e6 = .bool q := h_6
  subst h_6
  replace hf : Fam u5 a1 n1 f := hg.fam hf
  replace hg2 : Fam u5 a2 n2 g := hg.fam hg2
  clear hg
  refine Gw.ctl rfl (fun w => stepG_seq (x := .region 7 rVS7 false) (y := .ret)) ?_
  refine Gw.ctl rfl (fun w => stepG_region) ?_
  rw [show List.range rVS7.size = [0, 1, 2, 3, 4, 5, 6, 7] from rfl]
  refine Gw.mv (oo := rVS7.getD 0 default) rfl (.inl rfl) rfl (bkn _) ?_
  refine (?_ : ∀ A : Act, (A.tmps.size = 33 ∧ A.defers = [] ∧ A.tmps.getD 2 undef = .bool false ∧ A.tmps.getD 3 undef = .slice a1 n1 c1 ∧ A.tmps.getD 4 undef = .slice a2 n2 c2 ∧ A.tmps.getD 5 undef = .slice a3 n3 c3 ∧ A.tmps.getD 6 undef = .bool q ∧ A.tmps.getD 26 undef = .bool q) → Gw _ _ _ _ _ _ (G ((base 4).at A _) _)) _ ⟨rfl, rfl, rfl, rfl, rfl, rfl, rfl, rfl⟩
  intro A hA
  obtain ⟨T, ds⟩ := A
  obtain ⟨hsz, hds, h_2, h_3, h_4, h_5, h_6, h_26⟩ := hA
  obtain rfl : ds = [] := hds
  try clear hds
  replace hsz : T.size = 33 := hsz
  revert h_2 h_3 h_4 h_5 h_6 h_26
  revert hsz
  revert T
  refine arr33 ?_
  intro e0 e1 e2 e3 e4 e5 e6 e7 e8 e9 e10 e11 e12 e13 e14 e15 e16 e17 e18 e19 e20 e21 e22 e23 e24 e25 e26 e27 e28 e29 e30 e31 e32 h_2 h_3 h_4 h_5 h_6 h_26
  have h_2 : e2 = .bool false := h_2
  subst h_2
  have h_3 : e3 = .slice a1 n1 c1 := h_3
  subst h_3
  have h_4 : e4 = .slice a2 n2 c2 := h_4
  subst h_4
  have h_5 : e5 = .slice a3 n3 c3 := h_5
  subst h_5
  have h_6 : e6 = .bool q := h_6
  subst h_6
  have h_26 : e26 = .bool q := h_26
  subst h_26
  refine Gw.val (oo := rVS7.getD 1 default) rfl rfl (bkn _) (fun w => not_run (p := q) rfl rfl) ?_
  refine Gw.mv (oo := rVS7.getD 2 default) rfl (.inl rfl) rfl (bkn _) ?_
  refine (?_ : ∀ A : Act, (A.tmps.size = 33 ∧ A.defers = [] ∧ A.tmps.getD 2 undef = .bool false ∧ A.tmps.getD 3 undef = .slice a1 n1 c1 ∧ A.tmps.getD 4 undef = .slice a2 n2 c2 ∧ A.tmps.getD 5 undef = .slice a3 n3 c3 ∧ A.tmps.getD 6 undef = .bool q ∧ A.tmps.getD 28 undef = .bool (!q)) → Gw _ _ _ _ _ _ (G ((base 4).at A _) _)) _ ⟨rfl, rfl, rfl, rfl, rfl, rfl, rfl, rfl⟩
  intro A hA
  obtain ⟨T, ds⟩ := A
  obtain ⟨hsz, hds, h_2, h_3, h_4, h_5, h_6, h_28⟩ := hA
  obtain rfl : ds = [] := hds
  try clear hds
  replace hsz : T.size = 33 := hsz
  revert h_2 h_3 h_4 h_5 h_6 h_28
  revert hsz
  revert T
  refine arr33 ?_
  intro e0 e1 e2 e3 e4 e5 e6 e7 e8 e9 e10 e11 e12 e13 e14 e15 e16 e17 e18 e19 e20 e21 e22 e23 e24 e25 e26 e27 e28 e29 e30 e31 e32 h_2 h_3 h_4 h_5 h_6 h_28
  have h_2 : e2 = .bool false := h_2
  subst h_2
  have h_3 : e3 = .slice a1 n1 c1 := h_3
  subst h_3
  have h_4 : e4 = .slice a2 n2 c2 := h_4
  subst h_4
  have h_5 : e5 = .slice a3 n3 c3 := h_5
  subst h_5
  have h_6 : e6 = .bool q := h_6
  subst h_6
  have h_28 : e28 = .bool (!q) := h_28
  subst h_28
  cases q
  · skip
    refine Gw.skip (oo := rVS7.getD 3 default) rfl rfl ?_
    refine Gw.skip (oo := rVS7.getD 4 default) rfl rfl ?_
    refine Gw.skip (oo := rVS7.getD 5 default) rfl rfl ?_
    refine Gw.val (oo := rVS7.getD 6 default) rfl rfl (bkn _) (fun w => pick_run (t := true) rfl rfl) ?_
    refine Gw.mv (oo := rVS7.getD 7 default) rfl (.inr rfl) rfl (bkn _) ?_
    refine Gw.ctl rfl (fun w => stepG_region_end) ?_
    refine (?_ : ∀ A : Act, (A.tmps.size = 33 ∧ A.defers = [] ∧ A.tmps.getD 2 undef = .bool true) → Gw _ _ _ _ _ _ (G ((base 4).at A _) _)) _ ⟨rfl, rfl, rfl⟩
    intro A hA
    refine Gw.ctl rfl (fun w => stepG_ret') ?_
    exact leave hA.2.1 hA.2.2
  · skip
    refine Gw.mv (oo := rVS7.getD 3 default) rfl (.inl rfl) rfl (bkn _) ?_
    refine Gw.mv (oo := rVS7.getD 4 default) rfl (.inl rfl) rfl (bkn _) ?_
    refine (?_ : ∀ A : Act, (A.tmps.size = 33 ∧ A.defers = [] ∧ A.tmps.getD 2 undef = .bool false ∧ A.tmps.getD 3 undef = .slice a1 n1 c1 ∧ A.tmps.getD 4 undef = .slice a2 n2 c2 ∧ A.tmps.getD 5 undef = .slice a3 n3 c3 ∧ A.tmps.getD 6 undef = .bool true ∧ A.tmps.getD 28 undef = .bool false ∧ A.tmps.getD 29 undef = .slice a1 n1 c1 ∧ A.tmps.getD 30 undef = .slice a2 n2 c2) → Gw _ _ _ _ _ _ (G ((base 4).at A _) _)) _ ⟨rfl, rfl, rfl, rfl, rfl, rfl, rfl, rfl, rfl, rfl⟩
    intro A hA
    obtain ⟨T, ds⟩ := A
    obtain ⟨hsz, hds, h_2, h_3, h_4, h_5, h_6, h_28, h_29, h_30⟩ := hA
    obtain rfl : ds = [] := hds
    try clear hds
    replace hsz : T.size = 33 := hsz
    revert h_2 h_3 h_4 h_5 h_6 h_28 h_29 h_30
    revert hsz
    revert T
    refine arr33 ?_
    intro e0 e1 e2 e3 e4 e5 e6 e7 e8 e9 e10 e11 e12 e13 e14 e15 e16 e17 e18 e19 e20 e21 e22 e23 e24 e25 e26 e27 e28 e29 e30 e31 e32 h_2 h_3 h_4 h_5 h_6 h_28 h_29 h_30
    have h_2 : e2 = .bool false := h_2
    subst h_2
    have h_3 : e3 = .slice a1 n1 c1 := h_3
    subst h_3
    have h_4 : e4 = .slice a2 n2 c2 := h_4
    subst h_4
    have h_5 : e5 = .slice a3 n3 c3 := h_5
    subst h_5
    have h_6 : e6 = .bool true := h_6
    subst h_6
    have h_28 : e28 = .bool false := h_28
    subst h_28
    have h_29 : e29 = .slice a1 n1 c1 := h_29
    subst h_29
    have h_30 : e30 = .slice a2 n2 c2 := h_30
    subst h_30
    refine Gw.gcall (oo := rVS7.getD 5 default) (g := 14) (args := #[.tmp 29, .tmp 30]) rfl rfl (bkn _) rfl Try.func14 nmInt rfl (vals := #[.slice a1 n1 c1, .slice a2 n2 c2]) (by simp [Act.eval]) (Intersects_g hf hg2) fun X5 v u6 hg v_ => ?_
    rw [ver_int hq] at v_
    subst v_
    refine Gw.val (oo := rVS7.getD 6 default) rfl rfl (bkn _) (fun w => pick_run (t := false) rfl rfl) ?_
    refine Gw.mv (oo := rVS7.getD 7 default) rfl (.inr rfl) rfl (bkn _) ?_
    refine Gw.ctl rfl (fun w => stepG_region_end) ?_
    refine (?_ : ∀ A : Act, (A.tmps.size = 33 ∧ A.defers = [] ∧ A.tmps.getD 2 undef = .bool true) → Gw _ _ _ _ _ _ (G ((base 4).at A _) _)) _ ⟨rfl, rfl, rfl⟩
    intro A hA
    refine Gw.ctl rfl (fun w => stepG_ret') ?_
    exact leave hA.2.1 hA.2.2
end Go.Proofs.Ytnifgfnhcjhodaa
