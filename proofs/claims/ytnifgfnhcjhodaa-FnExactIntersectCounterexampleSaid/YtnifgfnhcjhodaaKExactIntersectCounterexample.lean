/- The walk of laws.FnExactIntersectCounterexample. Condition: the arguments are what their types say. -/
import Derived.Test.YtnifgfnhcjhodaaP2
set_option linter.unusedVariables false
set_option linter.unusedSimpArgs false
namespace Go.Proofs.Ytnifgfnhcjhodaa
open Go.Conc Go.RowKit

noncomputable def bXE : Code := Try.f6.body.getD .skip
noncomputable def rXE11 : Array Oper := co (cl (ct 9 bXE))
noncomputable def rXE35 : Array Oper := co (cl (ct 26 bXE))

def B20 (n : Nat) : Prop := n ≤ 1048576
def Zok (z : Int) : Prop := 0 ≤ z ∧ z ≤ 50000000
def Zok2 (z : Int) : Prop := 0 ≤ z ∧ z ≤ 60000000
theorem eqIntS_is {a : Option Addr} {n c : Nat} {xs : List Int} {b : Option Addr} {m d : Nat} {ys : List Int} {w : World} {q : Bool} (hx : Ints w a n xs) (hy : Ints w b m ys) (hq : same xs ys = q) :
    Calls Try.prog 22 #[.slice a n c, .slice b m d] w fun e w' => e = .returned (.bool q) ∧ Dr w w' := by
  rw [← hq]; exact eqIntS_any hx hy
theorem CexR.len {f g : List (List Int)} {p : Bool} {A B : List Int} (h : CexR f g p A B) : A.length ≤ 6 ∧ B.length ≤ 6 := by
  rcases h with ⟨rfl, rfl, rfl, h⟩ | ⟨rfl, hok, i, k, hi, hk, h0, hn, hm, rfl, rfl⟩
  · simp
  · exact ⟨mem_len, mem_len⟩
theorem kna_nil {T : Tame} {f : FuncId} {args : Array Value} (h : T.K f = []) : KnA T f args := by unfold KnA; rw [h]; intro x hx; cases hx
theorem nmCx : (Try.f10.name == "runtime.NumGoroutine") = false := by kernel_rfl
set_option maxRecDepth 20000 in
set_option maxHeartbeats 4000000 in
theorem FnExactIntersectCounterexample_g {a0 : Option Addr} {n0 c0 : Nat} {f0 : List (List Int)} {a1 : Option Addr} {n1 c1 : Nat} {f1 : List (List Int)} {u : World} (hf0 : FamV u a0 n0 c0 f0) (hf1 : FamV u a1 n1 c1 f1) :
    GLaw Try.prog 6 #[.slice a0 n0 c0, .slice a1 n1 c1] u := by
  have h0 := hf0.1
  have h1 := hf1.1
  clear hf0 hf1
  refine GLaw.of (cd := bXE) Try.func6 rfl ?_
  have leave : ∀ {X : Nat → Prop} {u1 : World} {a' : Act} {todo : List Item}, a'.defers = [] → a'.tmps.getD 4 undef = .bool true → Gw Try.prog (fun _ => False) u (QEnd Try.prog 6 u) X u1 (G { (base 6).at a' todo with mode := .returning } []) := fun hd h2 =>
    Gw.fin Try.func6 hd (by rw [← h2]; simp [results, Try.f6])
  refine Gw.ctl rfl (fun w => stepG_seq (x := cl (ct 0 bXE)) (y := (ct 1 bXE))) ?_
  refine Gw.seg CC RR (f := 6) (N := fun a' u' => (a'.tmps.size = 156 ∧ a'.defers = [] ∧ a'.tmps.getD 0 undef = .slice a0 n0 c0 ∧ a'.tmps.getD 1 undef = .slice a1 n1 c1)) (Rt := fun a' u' => False) rfl (kn_nil rfl) rfl (by kernel_rfl) (fun _ _ _ _ h => h) (fun _ _ _ _ h => h) (fun t d => ?_) (fun A u1 hg h => ?_) fun _ _ _ _ _ h => h.elim
  · generalize World.re u t d = v
    simp only [bXE, cl, cr, ct, co, Try.f6, Option.getD_some, List.size_toArray, List.length_cons, List.length_nil, Nat.reduceAdd, Nat.reduceSub, Array.replicate_succ, Array.replicate_zero, List.push_toArray, List.append_toArray, List.nil_append, List.cons_append]
    go_wp2_with fail
    exact ⟨⟨rfl, rfl, rfl, rfl⟩, Ext.refl _ _⟩
  have hA := h
  clear h
  obtain ⟨T, ds⟩ := A
  obtain ⟨hsz, hds, h_0, h_1⟩ := hA
  obtain rfl : ds = [] := hds
  try clear hds
  replace hsz : T.size = 156 := hsz
  revert h_0 h_1
  revert hsz
  revert T
  refine arr156 ?_
  intro e0 e1 e2 e3 e4 e5 e6 e7 e8 e9 e10 e11 e12 e13 e14 e15 e16 e17 e18 e19 e20 e21 e22 e23 e24 e25 e26 e27 e28 e29 e30 e31 e32 e33 e34 e35 e36 e37 e38 e39 e40 e41 e42 e43 e44 e45 e46 e47 e48 e49 e50 e51 e52 e53 e54 e55 e56 e57 e58 e59 e60 e61 e62 e63 e64 e65 e66 e67 e68 e69 e70 e71 e72 e73 e74 e75 e76 e77 e78 e79 e80 e81 e82 e83 e84 e85 e86 e87 e88 e89 e90 e91 e92 e93 e94 e95 e96 e97 e98 e99 e100 e101 e102 e103 e104 e105 e106 e107 e108 e109 e110 e111 e112 e113 e114 e115 e116 e117 e118 e119 e120 e121 e122 e123 e124 e125 e126 e127 e128 e129 e130 e131 e132 e133 e134 e135 e136 e137 e138 e139 e140 e141 e142 e143 e144 e145 e146 e147 e148 e149 e150 e151 e152 e153 e154 e155 h_0 h_1
  have h_0 : e0 = .slice a0 n0 c0 := h_0
  subst h_0
  have h_1 : e1 = .slice a1 n1 c1 := h_1
  subst h_1
  replace h0 : Fam u1 a0 n0 f0 := hg.fam h0
  replace h1 : Fam u1 a1 n1 f1 := hg.fam h1
  clear hg
  refine Gw.ctl rfl (fun w => stepG_seq (x := cl (ct 1 bXE)) (y := (ct 2 bXE))) ?_
  refine Gw.seg CC RR (f := 6) (N := fun a' u' => (a'.tmps.size = 156 ∧ a'.defers = [] ∧ a'.tmps.getD 0 undef = .slice a0 n0 c0 ∧ a'.tmps.getD 1 undef = .slice a1 n1 c1 ∧ a'.tmps.getD 5 undef = .int .i64 1048576)) (Rt := fun a' u' => False) rfl (kn_nil rfl) rfl (by kernel_rfl) (fun _ _ _ _ h => h) (fun _ _ _ _ h => h) (fun t d => ?_) (fun A u2 hg h => ?_) fun _ _ _ _ _ h => h.elim
  · generalize World.re u1 t d = v
    simp only [bXE, cl, cr, ct, co, Try.f6, Option.getD_some]
    go_wp2_with fail
    exact ⟨⟨rfl, rfl, rfl, rfl, rfl⟩, Ext.refl _ _⟩
  have hA := h
  clear h
  obtain ⟨T, ds⟩ := A
  obtain ⟨hsz, hds, h_0, h_1, h_5⟩ := hA
  obtain rfl : ds = [] := hds
  try clear hds
  replace hsz : T.size = 156 := hsz
  revert h_0 h_1 h_5
  revert hsz
  revert T
  refine arr156 ?_
  intro e0 e1 e2 e3 e4 e5 e6 e7 e8 e9 e10 e11 e12 e13 e14 e15 e16 e17 e18 e19 e20 e21 e22 e23 e24 e25 e26 e27 e28 e29 e30 e31 e32 e33 e34 e35 e36 e37 e38 e39 e40 e41 e42 e43 e44 e45 e46 e47 e48 e49 e50 e51 e52 e53 e54 e55 e56 e57 e58 e59 e60 e61 e62 e63 e64 e65 e66 e67 e68 e69 e70 e71 e72 e73 e74 e75 e76 e77 e78 e79 e80 e81 e82 e83 e84 e85 e86 e87 e88 e89 e90 e91 e92 e93 e94 e95 e96 e97 e98 e99 e100 e101 e102 e103 e104 e105 e106 e107 e108 e109 e110 e111 e112 e113 e114 e115 e116 e117 e118 e119 e120 e121 e122 e123 e124 e125 e126 e127 e128 e129 e130 e131 e132 e133 e134 e135 e136 e137 e138 e139 e140 e141 e142 e143 e144 e145 e146 e147 e148 e149 e150 e151 e152 e153 e154 e155 h_0 h_1 h_5
  have h_0 : e0 = .slice a0 n0 c0 := h_0
  subst h_0
  have h_1 : e1 = .slice a1 n1 c1 := h_1
  subst h_1
  have h_5 : e5 = .int .i64 1048576 := h_5
  subst h_5
  replace h0 : Fam u2 a0 n0 f0 := hg.fam h0
  replace h1 : Fam u2 a1 n1 f1 := hg.fam h1
  clear hg
  refine Gw.ctl rfl (fun w => stepG_seq (x := cl (ct 2 bXE)) (y := (ct 3 bXE))) ?_
  refine Gw.seg CC RR (f := 6) (N := fun a' u' => ∃ r, (a'.tmps.size = 156 ∧ a'.defers = [] ∧ a'.tmps.getD 0 undef = .slice a0 n0 c0 ∧ a'.tmps.getD 1 undef = .slice a1 n1 c1 ∧ a'.tmps.getD 5 undef = .int .i64 r) ∧ ((∃ k : Nat, r = (k : Int) ∧ k ≤ 1048576 ∧ tot f0 ≤ 1048576) ∨ r = -1)) (Rt := fun a' u' => False) rfl (kn_nil rfl) rfl (by kernel_rfl) (fun _ _ _ _ h => h) (fun _ _ _ _ h => h) (fun t d => ?_) (fun A u3 hg h => ?_) fun _ _ _ _ _ h => h.elim
  · have H0 : Fam (World.re u2 t d) a0 n0 f0 := h0
    generalize World.re u2 t d = v at H0
    simp only [bXE, cl, cr, ct, co, Try.f6, Option.getD_some]
    go_wp2_with fail
    refine (szIntSS_any (left := 1048576) H0 (by omega)).mono ?_; rintro e w_ ⟨⟨ht0, rfl⟩ | ⟨ht0, rfl⟩, rfl⟩
    · go_wp2_with fail
      exact ⟨⟨_, ⟨rfl, rfl, rfl, rfl, rfl⟩, .inl ⟨1048576 - tot f0, rfl, by omega, ht0⟩⟩, Ext.refl _ _⟩
    · go_wp2_with fail
      exact ⟨⟨_, ⟨rfl, rfl, rfl, rfl, rfl⟩, .inr rfl⟩, Ext.refl _ _⟩
  obtain ⟨r, hA, hr⟩ := h
  obtain ⟨T, ds⟩ := A
  obtain ⟨hsz, hds, h_0, h_1, h_5⟩ := hA
  obtain rfl : ds = [] := hds
  try clear hds
  replace hsz : T.size = 156 := hsz
  revert h_0 h_1 h_5
  revert hsz
  revert T
  refine arr156 ?_
  intro e0 e1 e2 e3 e4 e5 e6 e7 e8 e9 e10 e11 e12 e13 e14 e15 e16 e17 e18 e19 e20 e21 e22 e23 e24 e25 e26 e27 e28 e29 e30 e31 e32 e33 e34 e35 e36 e37 e38 e39 e40 e41 e42 e43 e44 e45 e46 e47 e48 e49 e50 e51 e52 e53 e54 e55 e56 e57 e58 e59 e60 e61 e62 e63 e64 e65 e66 e67 e68 e69 e70 e71 e72 e73 e74 e75 e76 e77 e78 e79 e80 e81 e82 e83 e84 e85 e86 e87 e88 e89 e90 e91 e92 e93 e94 e95 e96 e97 e98 e99 e100 e101 e102 e103 e104 e105 e106 e107 e108 e109 e110 e111 e112 e113 e114 e115 e116 e117 e118 e119 e120 e121 e122 e123 e124 e125 e126 e127 e128 e129 e130 e131 e132 e133 e134 e135 e136 e137 e138 e139 e140 e141 e142 e143 e144 e145 e146 e147 e148 e149 e150 e151 e152 e153 e154 e155 h_0 h_1 h_5
  have h_0 : e0 = .slice a0 n0 c0 := h_0
  subst h_0
  have h_1 : e1 = .slice a1 n1 c1 := h_1
  subst h_1
  have h_5 : e5 = .int .i64 r := h_5
  subst h_5
  replace h0 : Fam u3 a0 n0 f0 := hg.fam h0
  replace h1 : Fam u3 a1 n1 f1 := hg.fam h1
  clear hg
  refine Gw.ctl rfl (fun w => stepG_seq (x := cl (ct 3 bXE)) (y := (ct 4 bXE))) ?_
  refine Gw.seg CC RR (f := 6) (N := fun a' u' => ∃ r0, (a'.tmps.size = 156 ∧ a'.defers = [] ∧ a'.tmps.getD 0 undef = .slice a0 n0 c0 ∧ a'.tmps.getD 1 undef = .slice a1 n1 c1 ∧ a'.tmps.getD 5 undef = .int .i64 (r0 : Nat)) ∧ B20 r0 ∧ B20 (tot f0)) (Rt := fun a' u' => a'.tmps.getD 4 undef = .bool true) rfl (kn_nil rfl) rfl (by kernel_rfl) (fun _ _ _ _ h => h) (fun _ _ _ _ h => h) (fun t d => ?_) (fun A u4 hg h => ?_) (fun A u4 todo hd hg h => ?_)
  · generalize World.re u3 t d = v
    simp only [bXE, cl, cr, ct, co, Try.f6, Option.getD_some]
    rcases hr with ⟨k, rfl, hk, ht⟩ | rfl
    · have hk0 : ¬ (k : Int) < 0 := by omega
      go_wp2_with fail
      exact ⟨⟨k, ⟨rfl, rfl, rfl, rfl, rfl⟩, hk, ht⟩, Ext.refl _ _⟩
    · go_wp2_with fail
      exact ⟨rfl, Ext.refl _ _⟩
  rotate_left
  · exact leave hd h
  obtain ⟨r0, hA, hr0h, ht0h⟩ := h
  obtain ⟨T, ds⟩ := A
  obtain ⟨hsz, hds, h_0, h_1, h_5⟩ := hA
  obtain rfl : ds = [] := hds
  try clear hds
  replace hsz : T.size = 156 := hsz
  revert h_0 h_1 h_5
  revert hsz
  revert T
  refine arr156 ?_
  intro e0 e1 e2 e3 e4 e5 e6 e7 e8 e9 e10 e11 e12 e13 e14 e15 e16 e17 e18 e19 e20 e21 e22 e23 e24 e25 e26 e27 e28 e29 e30 e31 e32 e33 e34 e35 e36 e37 e38 e39 e40 e41 e42 e43 e44 e45 e46 e47 e48 e49 e50 e51 e52 e53 e54 e55 e56 e57 e58 e59 e60 e61 e62 e63 e64 e65 e66 e67 e68 e69 e70 e71 e72 e73 e74 e75 e76 e77 e78 e79 e80 e81 e82 e83 e84 e85 e86 e87 e88 e89 e90 e91 e92 e93 e94 e95 e96 e97 e98 e99 e100 e101 e102 e103 e104 e105 e106 e107 e108 e109 e110 e111 e112 e113 e114 e115 e116 e117 e118 e119 e120 e121 e122 e123 e124 e125 e126 e127 e128 e129 e130 e131 e132 e133 e134 e135 e136 e137 e138 e139 e140 e141 e142 e143 e144 e145 e146 e147 e148 e149 e150 e151 e152 e153 e154 e155 h_0 h_1 h_5
  have h_0 : e0 = .slice a0 n0 c0 := h_0
  subst h_0
  have h_1 : e1 = .slice a1 n1 c1 := h_1
  subst h_1
  have h_5 : e5 = .int .i64 (r0 : Nat) := h_5
  subst h_5
  replace h0 : Fam u4 a0 n0 f0 := hg.fam h0
  replace h1 : Fam u4 a1 n1 f1 := hg.fam h1
  clear hg
  have hr0 : r0 ≤ 1048576 := hr0h
  have ht0 : tot f0 ≤ 1048576 := ht0h
  clear hr0h ht0h
  clear hr
  refine Gw.ctl rfl (fun w => stepG_seq (x := cl (ct 4 bXE)) (y := (ct 5 bXE))) ?_
  refine Gw.seg CC RR (f := 6) (N := fun a' u' => ∃ r, (a'.tmps.size = 156 ∧ a'.defers = [] ∧ a'.tmps.getD 0 undef = .slice a0 n0 c0 ∧ a'.tmps.getD 1 undef = .slice a1 n1 c1 ∧ a'.tmps.getD 5 undef = .int .i64 r) ∧ ((∃ k : Nat, r = (k : Int) ∧ k ≤ 1048576 ∧ tot f1 ≤ 1048576) ∨ r = -1)) (Rt := fun a' u' => False) rfl (kn_nil rfl) rfl (by kernel_rfl) (fun _ _ _ _ h => h) (fun _ _ _ _ h => h) (fun t d => ?_) (fun A u5 hg h => ?_) fun _ _ _ _ _ h => h.elim
  · have H1 : Fam (World.re u4 t d) a1 n1 f1 := h1
    generalize World.re u4 t d = v at H1
    simp only [bXE, cl, cr, ct, co, Try.f6, Option.getD_some]
    go_wp2_with fail
    refine (szIntSS_any (left := r0) H1 (by omega)).mono ?_; rintro e w_ ⟨⟨ht1, rfl⟩ | ⟨ht1, rfl⟩, rfl⟩
    · go_wp2_with fail
      exact ⟨⟨_, ⟨rfl, rfl, rfl, rfl, rfl⟩, .inl ⟨r0 - tot f1, rfl, by omega, by omega⟩⟩, Ext.refl _ _⟩
    · go_wp2_with fail
      exact ⟨⟨_, ⟨rfl, rfl, rfl, rfl, rfl⟩, .inr rfl⟩, Ext.refl _ _⟩
  obtain ⟨r, hA, hr⟩ := h
  obtain ⟨T, ds⟩ := A
  obtain ⟨hsz, hds, h_0, h_1, h_5⟩ := hA
  obtain rfl : ds = [] := hds
  try clear hds
  replace hsz : T.size = 156 := hsz
  revert h_0 h_1 h_5
  revert hsz
  revert T
  refine arr156 ?_
  intro e0 e1 e2 e3 e4 e5 e6 e7 e8 e9 e10 e11 e12 e13 e14 e15 e16 e17 e18 e19 e20 e21 e22 e23 e24 e25 e26 e27 e28 e29 e30 e31 e32 e33 e34 e35 e36 e37 e38 e39 e40 e41 e42 e43 e44 e45 e46 e47 e48 e49 e50 e51 e52 e53 e54 e55 e56 e57 e58 e59 e60 e61 e62 e63 e64 e65 e66 e67 e68 e69 e70 e71 e72 e73 e74 e75 e76 e77 e78 e79 e80 e81 e82 e83 e84 e85 e86 e87 e88 e89 e90 e91 e92 e93 e94 e95 e96 e97 e98 e99 e100 e101 e102 e103 e104 e105 e106 e107 e108 e109 e110 e111 e112 e113 e114 e115 e116 e117 e118 e119 e120 e121 e122 e123 e124 e125 e126 e127 e128 e129 e130 e131 e132 e133 e134 e135 e136 e137 e138 e139 e140 e141 e142 e143 e144 e145 e146 e147 e148 e149 e150 e151 e152 e153 e154 e155 h_0 h_1 h_5
  have h_0 : e0 = .slice a0 n0 c0 := h_0
  subst h_0
  have h_1 : e1 = .slice a1 n1 c1 := h_1
  subst h_1
  have h_5 : e5 = .int .i64 r := h_5
  subst h_5
  replace h0 : Fam u5 a0 n0 f0 := hg.fam h0
  replace h1 : Fam u5 a1 n1 f1 := hg.fam h1
  clear hg
  refine Gw.ctl rfl (fun w => stepG_seq (x := cl (ct 5 bXE)) (y := (ct 6 bXE))) ?_
  refine Gw.seg CC RR (f := 6) (N := fun a' u' => (a'.tmps.size = 156 ∧ a'.defers = [] ∧ a'.tmps.getD 0 undef = .slice a0 n0 c0 ∧ a'.tmps.getD 1 undef = .slice a1 n1 c1) ∧ B20 (tot f1)) (Rt := fun a' u' => a'.tmps.getD 4 undef = .bool true) rfl (kn_nil rfl) rfl (by kernel_rfl) (fun _ _ _ _ h => h) (fun _ _ _ _ h => h) (fun t d => ?_) (fun A u6 hg h => ?_) (fun A u6 todo hd hg h => ?_)
  · generalize World.re u5 t d = v
    simp only [bXE, cl, cr, ct, co, Try.f6, Option.getD_some]
    rcases hr with ⟨k, rfl, hk, ht⟩ | rfl
    · have hk0 : ¬ (k : Int) < 0 := by omega
      go_wp2_with fail
      exact ⟨⟨⟨rfl, rfl, rfl, rfl⟩, ht⟩, Ext.refl _ _⟩
    · go_wp2_with fail
      exact ⟨rfl, Ext.refl _ _⟩
  rotate_left
  · exact leave hd h
  obtain ⟨hA, ht1h⟩ := h
  obtain ⟨T, ds⟩ := A
  obtain ⟨hsz, hds, h_0, h_1⟩ := hA
  obtain rfl : ds = [] := hds
  try clear hds
  replace hsz : T.size = 156 := hsz
  revert h_0 h_1
  revert hsz
  revert T
  refine arr156 ?_
  intro e0 e1 e2 e3 e4 e5 e6 e7 e8 e9 e10 e11 e12 e13 e14 e15 e16 e17 e18 e19 e20 e21 e22 e23 e24 e25 e26 e27 e28 e29 e30 e31 e32 e33 e34 e35 e36 e37 e38 e39 e40 e41 e42 e43 e44 e45 e46 e47 e48 e49 e50 e51 e52 e53 e54 e55 e56 e57 e58 e59 e60 e61 e62 e63 e64 e65 e66 e67 e68 e69 e70 e71 e72 e73 e74 e75 e76 e77 e78 e79 e80 e81 e82 e83 e84 e85 e86 e87 e88 e89 e90 e91 e92 e93 e94 e95 e96 e97 e98 e99 e100 e101 e102 e103 e104 e105 e106 e107 e108 e109 e110 e111 e112 e113 e114 e115 e116 e117 e118 e119 e120 e121 e122 e123 e124 e125 e126 e127 e128 e129 e130 e131 e132 e133 e134 e135 e136 e137 e138 e139 e140 e141 e142 e143 e144 e145 e146 e147 e148 e149 e150 e151 e152 e153 e154 e155 h_0 h_1
  have h_0 : e0 = .slice a0 n0 c0 := h_0
  subst h_0
  have h_1 : e1 = .slice a1 n1 c1 := h_1
  subst h_1
  replace h0 : Fam u6 a0 n0 f0 := hg.fam h0
  replace h1 : Fam u6 a1 n1 f1 := hg.fam h1
  clear hg
  have ht1 : tot f1 ≤ 1048576 := ht1h
  clear ht1h
  clear hr
  refine Gw.ctl rfl (fun w => stepG_seq (x := cl (ct 6 bXE)) (y := (ct 7 bXE))) ?_
  refine Gw.seg CC RR (f := 6) (N := fun a' u' => ∃ a6 n6 c6 a7 n7 c7 p S5 S6, (a'.tmps.size = 156 ∧ a'.defers = [] ∧ a'.tmps.getD 0 undef = .slice a0 n0 c0 ∧ a'.tmps.getD 1 undef = .slice a1 n1 c1 ∧ a'.tmps.getD 6 undef = .slice a6 n6 c6 ∧ a'.tmps.getD 7 undef = .slice a7 n7 c7 ∧ a'.tmps.getD 8 undef = .bool p) ∧ Ints u' a6 n6 S5 ∧ Ints u' a7 n7 S6 ∧ CexR f0 f1 p S5 S6) (Rt := fun a' u' => False) rfl (kn_nil rfl) rfl (by kernel_rfl) (fun _ _ _ _ h => h) (fun _ _ _ _ h => h) (fun t d => ?_) (fun A u7 hg h => ?_) fun _ _ _ _ _ h => h.elim
  · have H0 : Fam (World.re u6 t d) a0 n0 f0 := h0
    have H1 : Fam (World.re u6 t d) a1 n1 f1 := h1
    generalize World.re u6 t d = v at H0 H1
    simp only [bXE, cl, cr, ct, co, Try.f6, Option.getD_some]
    have HT0 := Lib.hid ht0
    have HT1 := Lib.hid ht1
    clear ht0 ht1 h0 h1
    go_wp2_with fail
    refine (toIntSS_any H0 HT0.out).mono ?_; rintro e w1 ⟨b1, k1, d1, rfl, o1, e1⟩
    go_wp2_with fail
    refine (toIntSS_any (H1.ext e1) HT1.out).mono ?_; rintro e w2 ⟨b2, k2, d2, rfl, o2, e2⟩
    have HE := Lib.hid (e1.trans e2)
    have F1 := Lib.hid (o1.ext0 e2).ownF.fam
    have F2 := Lib.hid o2.ownF.fam
    clear o1 o2 e1 e2
    go_wp2_with fail
    refine (sIntersectCounterexample_any F1.out F2.out).mono ?_; rintro e w3 ⟨a4, n4, c4, a5, n5, c5, p, S5, S6, rfl, i4, i5, hc, e3⟩
    go_wp2_with fail
    exact ⟨⟨_, _, _, _, _, _, _, _, _, ⟨rfl, rfl, rfl, rfl, rfl, rfl, rfl⟩, i4, i5, hc⟩, HE.out.trans e3⟩
  obtain ⟨a6, n6, c6, a7, n7, c7, p, S5, S6, hA, i6, i7, hc⟩ := h
  obtain ⟨T, ds⟩ := A
  obtain ⟨hsz, hds, h_0, h_1, h_6, h_7, h_8⟩ := hA
  obtain rfl : ds = [] := hds
  try clear hds
  replace hsz : T.size = 156 := hsz
  revert h_0 h_1 h_6 h_7 h_8
  revert hsz
  revert T
  refine arr156 ?_
  intro e0 e1 e2 e3 e4 e5 e6 e7 e8 e9 e10 e11 e12 e13 e14 e15 e16 e17 e18 e19 e20 e21 e22 e23 e24 e25 e26 e27 e28 e29 e30 e31 e32 e33 e34 e35 e36 e37 e38 e39 e40 e41 e42 e43 e44 e45 e46 e47 e48 e49 e50 e51 e52 e53 e54 e55 e56 e57 e58 e59 e60 e61 e62 e63 e64 e65 e66 e67 e68 e69 e70 e71 e72 e73 e74 e75 e76 e77 e78 e79 e80 e81 e82 e83 e84 e85 e86 e87 e88 e89 e90 e91 e92 e93 e94 e95 e96 e97 e98 e99 e100 e101 e102 e103 e104 e105 e106 e107 e108 e109 e110 e111 e112 e113 e114 e115 e116 e117 e118 e119 e120 e121 e122 e123 e124 e125 e126 e127 e128 e129 e130 e131 e132 e133 e134 e135 e136 e137 e138 e139 e140 e141 e142 e143 e144 e145 e146 e147 e148 e149 e150 e151 e152 e153 e154 e155 h_0 h_1 h_6 h_7 h_8
  have h_0 : e0 = .slice a0 n0 c0 := h_0
  subst h_0
  have h_1 : e1 = .slice a1 n1 c1 := h_1
  subst h_1
  have h_6 : e6 = .slice a6 n6 c6 := h_6
  subst h_6
  have h_7 : e7 = .slice a7 n7 c7 := h_7
  subst h_7
  have h_8 : e8 = .bool p := h_8
  subst h_8
  replace h0 : Fam u7 a0 n0 f0 := hg.fam h0
  replace h1 : Fam u7 a1 n1 f1 := hg.fam h1
  clear hg
  refine Gw.has fun GU => ?_
  have lu : u.heap.size ≤ u7.heap.size := GU.size
  clear GU
  have G7 : Gx u7 u7 := .refl u7
  refine Gw.ctl rfl (fun w => stepG_seq (x := cl (ct 7 bXE)) (y := (ct 8 bXE))) ?_
  refine Gw.seg CC RR (f := 6) (N := fun a' u' => ∃ a9 n9 c9 h9, (a'.tmps.size = 156 ∧ a'.defers = [] ∧ a'.tmps.getD 0 undef = .slice a0 n0 c0 ∧ a'.tmps.getD 1 undef = .slice a1 n1 c1 ∧ a'.tmps.getD 6 undef = .slice a6 n6 c6 ∧ a'.tmps.getD 7 undef = .slice a7 n7 c7 ∧ a'.tmps.getD 8 undef = .bool p ∧ a'.tmps.getD 9 undef = .slice a9 n9 c9) ∧ OwnG u' u7.heap.size h9 a9 n9 c9 f0 ∧ h9 ≤ (u').heap.size ∧ u7.heap.size ≤ h9) (Rt := fun a' u' => False) rfl (kn_nil rfl) rfl (by kernel_rfl) (fun _ _ _ _ h => h) (fun _ _ _ _ h => h) (fun t d => ?_) (fun A u8 hg h => ?_) fun _ _ _ _ _ h => h.elim
  · have H0 : Fam (World.re u7 t d) a0 n0 f0 := h0
    have HS : u7.heap.size ≤ ((World.re u7 t d)).heap.size := Nat.le_refl _
    generalize World.re u7 t d = v at H0 HS
    simp only [bXE, cl, cr, ct, co, Try.f6, Option.getD_some]
    have HT0 := Lib.hid ht0
    clear ht0
    go_wp2_with fail
    refine (toIntSS_any H0 HT0.out).mono ?_; rintro e w1 ⟨b1, k1, d1, rfl, o1, e1⟩
    go_wp2_with fail
    exact ⟨⟨_, _, _, _, ⟨rfl, rfl, rfl, rfl, rfl, rfl, rfl, rfl⟩, o1.low HS, Nat.le_refl _, Nat.le_trans HS e1.size⟩, e1⟩
  obtain ⟨a9, n9, c9, h9, hA, x9, b9, l9⟩ := h
  obtain ⟨T, ds⟩ := A
  obtain ⟨hsz, hds, h_0, h_1, h_6, h_7, h_8, h_9⟩ := hA
  obtain rfl : ds = [] := hds
  try clear hds
  replace hsz : T.size = 156 := hsz
  revert h_0 h_1 h_6 h_7 h_8 h_9
  revert hsz
  revert T
  refine arr156 ?_
  intro e0 e1 e2 e3 e4 e5 e6 e7 e8 e9 e10 e11 e12 e13 e14 e15 e16 e17 e18 e19 e20 e21 e22 e23 e24 e25 e26 e27 e28 e29 e30 e31 e32 e33 e34 e35 e36 e37 e38 e39 e40 e41 e42 e43 e44 e45 e46 e47 e48 e49 e50 e51 e52 e53 e54 e55 e56 e57 e58 e59 e60 e61 e62 e63 e64 e65 e66 e67 e68 e69 e70 e71 e72 e73 e74 e75 e76 e77 e78 e79 e80 e81 e82 e83 e84 e85 e86 e87 e88 e89 e90 e91 e92 e93 e94 e95 e96 e97 e98 e99 e100 e101 e102 e103 e104 e105 e106 e107 e108 e109 e110 e111 e112 e113 e114 e115 e116 e117 e118 e119 e120 e121 e122 e123 e124 e125 e126 e127 e128 e129 e130 e131 e132 e133 e134 e135 e136 e137 e138 e139 e140 e141 e142 e143 e144 e145 e146 e147 e148 e149 e150 e151 e152 e153 e154 e155 h_0 h_1 h_6 h_7 h_8 h_9
  have h_0 : e0 = .slice a0 n0 c0 := h_0
  subst h_0
  have h_1 : e1 = .slice a1 n1 c1 := h_1
  subst h_1
  have h_6 : e6 = .slice a6 n6 c6 := h_6
  subst h_6
  have h_7 : e7 = .slice a7 n7 c7 := h_7
  subst h_7
  have h_8 : e8 = .bool p := h_8
  subst h_8
  have h_9 : e9 = .slice a9 n9 c9 := h_9
  subst h_9
  replace G7 : Gx u7 u8 := G7.trans hg
  clear hg
  refine Gw.ctl rfl (fun w => stepG_seq (x := cl (ct 8 bXE)) (y := (ct 9 bXE))) ?_
  refine Gw.seg CC RR (f := 6) (N := fun a' u' => ∃ a10 n10 c10 h10, (a'.tmps.size = 156 ∧ a'.defers = [] ∧ a'.tmps.getD 0 undef = .slice a0 n0 c0 ∧ a'.tmps.getD 1 undef = .slice a1 n1 c1 ∧ a'.tmps.getD 6 undef = .slice a6 n6 c6 ∧ a'.tmps.getD 7 undef = .slice a7 n7 c7 ∧ a'.tmps.getD 8 undef = .bool p ∧ a'.tmps.getD 9 undef = .slice a9 n9 c9 ∧ a'.tmps.getD 10 undef = .slice a10 n10 c10) ∧ OwnG u' h9 h10 a10 n10 c10 f1 ∧ h10 ≤ (u').heap.size ∧ h9 ≤ h10) (Rt := fun a' u' => False) rfl (kn_nil rfl) rfl (by kernel_rfl) (fun _ _ _ _ h => h) (fun _ _ _ _ h => h) (fun t d => ?_) (fun A u9 hg h => ?_) fun _ _ _ _ _ h => h.elim
  · have H1 : Fam (World.re u8 t d) a1 n1 f1 := G7.fam h1
    have HS : h9 ≤ ((World.re u8 t d)).heap.size := b9
    generalize World.re u8 t d = v at H1 HS
    simp only [bXE, cl, cr, ct, co, Try.f6, Option.getD_some]
    have HT1 := Lib.hid ht1
    clear ht1
    go_wp2_with fail
    refine (toIntSS_any H1 HT1.out).mono ?_; rintro e w1 ⟨b1, k1, d1, rfl, o1, e1⟩
    go_wp2_with fail
    exact ⟨⟨_, _, _, _, ⟨rfl, rfl, rfl, rfl, rfl, rfl, rfl, rfl, rfl⟩, o1.low HS, Nat.le_refl _, Nat.le_trans HS e1.size⟩, e1⟩
  obtain ⟨a10, n10, c10, h10, hA, x10, b10, l10⟩ := h
  obtain ⟨T, ds⟩ := A
  obtain ⟨hsz, hds, h_0, h_1, h_6, h_7, h_8, h_9, h_10⟩ := hA
  obtain rfl : ds = [] := hds
  try clear hds
  replace hsz : T.size = 156 := hsz
  revert h_0 h_1 h_6 h_7 h_8 h_9 h_10
  revert hsz
  revert T
  refine arr156 ?_
  intro e0 e1 e2 e3 e4 e5 e6 e7 e8 e9 e10 e11 e12 e13 e14 e15 e16 e17 e18 e19 e20 e21 e22 e23 e24 e25 e26 e27 e28 e29 e30 e31 e32 e33 e34 e35 e36 e37 e38 e39 e40 e41 e42 e43 e44 e45 e46 e47 e48 e49 e50 e51 e52 e53 e54 e55 e56 e57 e58 e59 e60 e61 e62 e63 e64 e65 e66 e67 e68 e69 e70 e71 e72 e73 e74 e75 e76 e77 e78 e79 e80 e81 e82 e83 e84 e85 e86 e87 e88 e89 e90 e91 e92 e93 e94 e95 e96 e97 e98 e99 e100 e101 e102 e103 e104 e105 e106 e107 e108 e109 e110 e111 e112 e113 e114 e115 e116 e117 e118 e119 e120 e121 e122 e123 e124 e125 e126 e127 e128 e129 e130 e131 e132 e133 e134 e135 e136 e137 e138 e139 e140 e141 e142 e143 e144 e145 e146 e147 e148 e149 e150 e151 e152 e153 e154 e155 h_0 h_1 h_6 h_7 h_8 h_9 h_10
  have h_0 : e0 = .slice a0 n0 c0 := h_0
  subst h_0
  have h_1 : e1 = .slice a1 n1 c1 := h_1
  subst h_1
  have h_6 : e6 = .slice a6 n6 c6 := h_6
  subst h_6
  have h_7 : e7 = .slice a7 n7 c7 := h_7
  subst h_7
  have h_8 : e8 = .bool p := h_8
  subst h_8
  have h_9 : e9 = .slice a9 n9 c9 := h_9
  subst h_9
  have h_10 : e10 = .slice a10 n10 c10 := h_10
  subst h_10
  replace G7 : Gx u7 u9 := G7.trans hg
  replace x9 : OwnG u9 u7.heap.size h9 a9 n9 c9 f0 := hg.ownG x9
  clear hg
  refine Gw.ctl rfl (fun w => stepG_seq (x := .region 11 rXE11 false) (y := (ct 10 bXE))) ?_
  refine Gw.ctl rfl (fun w => stepG_region) ?_
  rw [show List.range rXE11.size = [0, 1, 2, 3, 4, 5, 6, 7, 8, 9] from rfl]
  refine Gw.mv (oo := rXE11.getD 0 default) rfl (.inl rfl) rfl (bkn _) ?_
  refine Gw.mv (oo := rXE11.getD 1 default) rfl (.inl rfl) rfl (bkn _) ?_
  refine (?_ : ∀ A : Act, (A.tmps.size = 156 ∧ A.defers = [] ∧ A.tmps.getD 0 undef = .slice a0 n0 c0 ∧ A.tmps.getD 1 undef = .slice a1 n1 c1 ∧ A.tmps.getD 6 undef = .slice a6 n6 c6 ∧ A.tmps.getD 7 undef = .slice a7 n7 c7 ∧ A.tmps.getD 8 undef = .bool p ∧ A.tmps.getD 9 undef = .slice a9 n9 c9 ∧ A.tmps.getD 10 undef = .slice a10 n10 c10 ∧ A.tmps.getD 44 undef = .slice a9 n9 c9 ∧ A.tmps.getD 45 undef = .slice a10 n10 c10) → Gw _ _ _ _ _ _ (G ((base 6).at A _) _)) _ ⟨rfl, rfl, rfl, rfl, rfl, rfl, rfl, rfl, rfl, rfl, rfl⟩
  intro A hA
  obtain ⟨T, ds⟩ := A
  obtain ⟨hsz, hds, h_0, h_1, h_6, h_7, h_8, h_9, h_10, h_44, h_45⟩ := hA
  obtain rfl : ds = [] := hds
  try clear hds
  replace hsz : T.size = 156 := hsz
  revert h_0 h_1 h_6 h_7 h_8 h_9 h_10 h_44 h_45
  revert hsz
  revert T
  refine arr156 ?_
  intro e0 e1 e2 e3 e4 e5 e6 e7 e8 e9 e10 e11 e12 e13 e14 e15 e16 e17 e18 e19 e20 e21 e22 e23 e24 e25 e26 e27 e28 e29 e30 e31 e32 e33 e34 e35 e36 e37 e38 e39 e40 e41 e42 e43 e44 e45 e46 e47 e48 e49 e50 e51 e52 e53 e54 e55 e56 e57 e58 e59 e60 e61 e62 e63 e64 e65 e66 e67 e68 e69 e70 e71 e72 e73 e74 e75 e76 e77 e78 e79 e80 e81 e82 e83 e84 e85 e86 e87 e88 e89 e90 e91 e92 e93 e94 e95 e96 e97 e98 e99 e100 e101 e102 e103 e104 e105 e106 e107 e108 e109 e110 e111 e112 e113 e114 e115 e116 e117 e118 e119 e120 e121 e122 e123 e124 e125 e126 e127 e128 e129 e130 e131 e132 e133 e134 e135 e136 e137 e138 e139 e140 e141 e142 e143 e144 e145 e146 e147 e148 e149 e150 e151 e152 e153 e154 e155 h_0 h_1 h_6 h_7 h_8 h_9 h_10 h_44 h_45
  have h_0 : e0 = .slice a0 n0 c0 := h_0
  subst h_0
  have h_1 : e1 = .slice a1 n1 c1 := h_1
  subst h_1
  have h_6 : e6 = .slice a6 n6 c6 := h_6
  subst h_6
  have h_7 : e7 = .slice a7 n7 c7 := h_7
  subst h_7
  have h_8 : e8 = .bool p := h_8
  subst h_8
  have h_9 : e9 = .slice a9 n9 c9 := h_9
  subst h_9
  have h_10 : e10 = .slice a10 n10 c10 := h_10
  subst h_10
  have h_44 : e44 = .slice a9 n9 c9 := h_44
  subst h_44
  have h_45 : e45 = .slice a10 n10 c10 := h_45
  subst h_45
  refine Gw.gcall (oo := rXE11.getD 2 default) (g := 10) (args := #[.tmp 44, .tmp 45]) rfl rfl (bkn _) rfl Try.func10 nmCx rfl (vals := #[.slice a9 n9 c9, .slice a10 n10 c10]) (by simp [Act.eval]) (IntersectCounterexample_g x9.fam x10.fam) fun X4 v u10 hg ⟨a11, n11, c11, a12, n12, c12, p2, T5, T6, hv, _, _, hc2, R, k11, k12, k13, k14⟩ => ?_
  subst hv
  obtain ⟨rfl, rfl, rfl⟩ := hc2.one hc
  clear hc2
  refine (?_ : ∀ A : Act, (A.tmps.size = 156 ∧ A.defers = [] ∧ A.tmps.getD 0 undef = .slice a0 n0 c0 ∧ A.tmps.getD 1 undef = .slice a1 n1 c1 ∧ A.tmps.getD 6 undef = .slice a6 n6 c6 ∧ A.tmps.getD 7 undef = .slice a7 n7 c7 ∧ A.tmps.getD 8 undef = .bool p2 ∧ A.tmps.getD 9 undef = .slice a9 n9 c9 ∧ A.tmps.getD 10 undef = .slice a10 n10 c10 ∧ A.tmps.getD 46 undef = .tuple #[.slice a11 n11 c11, .slice a12 n12 c12, .bool p2]) → Gw _ _ _ _ _ _ (G ((base 6).at A _) _)) _ ⟨rfl, rfl, rfl, rfl, rfl, rfl, rfl, rfl, rfl, rfl⟩
  intro A hA
  obtain ⟨T, ds⟩ := A
  obtain ⟨hsz, hds, h_0, h_1, h_6, h_7, h_8, h_9, h_10, h_46⟩ := hA
  obtain rfl : ds = [] := hds
  try clear hds
  replace hsz : T.size = 156 := hsz
  revert h_0 h_1 h_6 h_7 h_8 h_9 h_10 h_46
  revert hsz
  revert T
  refine arr156 ?_
  intro e0 e1 e2 e3 e4 e5 e6 e7 e8 e9 e10 e11 e12 e13 e14 e15 e16 e17 e18 e19 e20 e21 e22 e23 e24 e25 e26 e27 e28 e29 e30 e31 e32 e33 e34 e35 e36 e37 e38 e39 e40 e41 e42 e43 e44 e45 e46 e47 e48 e49 e50 e51 e52 e53 e54 e55 e56 e57 e58 e59 e60 e61 e62 e63 e64 e65 e66 e67 e68 e69 e70 e71 e72 e73 e74 e75 e76 e77 e78 e79 e80 e81 e82 e83 e84 e85 e86 e87 e88 e89 e90 e91 e92 e93 e94 e95 e96 e97 e98 e99 e100 e101 e102 e103 e104 e105 e106 e107 e108 e109 e110 e111 e112 e113 e114 e115 e116 e117 e118 e119 e120 e121 e122 e123 e124 e125 e126 e127 e128 e129 e130 e131 e132 e133 e134 e135 e136 e137 e138 e139 e140 e141 e142 e143 e144 e145 e146 e147 e148 e149 e150 e151 e152 e153 e154 e155 h_0 h_1 h_6 h_7 h_8 h_9 h_10 h_46
  have h_0 : e0 = .slice a0 n0 c0 := h_0
  subst h_0
  have h_1 : e1 = .slice a1 n1 c1 := h_1
  subst h_1
  have h_6 : e6 = .slice a6 n6 c6 := h_6
  subst h_6
  have h_7 : e7 = .slice a7 n7 c7 := h_7
  subst h_7
  have h_8 : e8 = .bool p2 := h_8
  subst h_8
  have h_9 : e9 = .slice a9 n9 c9 := h_9
  subst h_9
  have h_10 : e10 = .slice a10 n10 c10 := h_10
  subst h_10
  have h_46 : e46 = .tuple #[.slice a11 n11 c11, .slice a12 n12 c12, .bool p2] := h_46
  subst h_46
  replace G7 : Gx u7 u10 := G7.trans hg
  replace x9 : OwnG u10 u7.heap.size h9 a9 n9 c9 f0 := hg.ownG x9
  replace x10 : OwnG u10 h9 h10 a10 n10 c10 f1 := hg.ownG x10
  replace k11 : OwnI u10 h10 a11 n11 c11 T5 := k11.mono b10
  replace k13 : h10 ≤ R := Nat.le_trans b10 k13
  clear hg
  refine Gw.oprest CC RR (f := 6) (N := fun a' u' => (a'.tmps.size = 156 ∧ a'.defers = [] ∧ a'.tmps.getD 0 undef = .slice a0 n0 c0 ∧ a'.tmps.getD 1 undef = .slice a1 n1 c1 ∧ a'.tmps.getD 6 undef = .slice a6 n6 c6 ∧ a'.tmps.getD 7 undef = .slice a7 n7 c7 ∧ a'.tmps.getD 8 undef = .bool p2 ∧ a'.tmps.getD 9 undef = .slice a9 n9 c9 ∧ a'.tmps.getD 10 undef = .slice a10 n10 c10 ∧ a'.tmps.getD 11 undef = .slice a11 n11 c11 ∧ a'.tmps.getD 12 undef = .slice a12 n12 c12 ∧ a'.tmps.getD 13 undef = .bool p2)) rfl (kn_nil rfl) rfl (by kernel_rfl) (fun _ _ _ _ h => h) (fun t d => ?_) (fun A u11 hg hA => ?_)
  · generalize World.re u10 t d = v
    refine wpOps_rest 3 rfl ?_
    simp only [rXE11, bXE, cl, cr, ct, co, Try.f6, Option.getD_some, List.drop_succ_cons, List.drop_zero]
    go_wp2_with fail
    exact ⟨⟨rfl, rfl, rfl, rfl, rfl, rfl, rfl, rfl, rfl, rfl, rfl, rfl⟩, Ext.refl _ _⟩
  obtain ⟨T, ds⟩ := A
  obtain ⟨hsz, hds, h_0, h_1, h_6, h_7, h_8, h_9, h_10, h_11, h_12, h_13⟩ := hA
  obtain rfl : ds = [] := hds
  try clear hds
  replace hsz : T.size = 156 := hsz
  revert h_0 h_1 h_6 h_7 h_8 h_9 h_10 h_11 h_12 h_13
  revert hsz
  revert T
  refine arr156 ?_
  intro e0 e1 e2 e3 e4 e5 e6 e7 e8 e9 e10 e11 e12 e13 e14 e15 e16 e17 e18 e19 e20 e21 e22 e23 e24 e25 e26 e27 e28 e29 e30 e31 e32 e33 e34 e35 e36 e37 e38 e39 e40 e41 e42 e43 e44 e45 e46 e47 e48 e49 e50 e51 e52 e53 e54 e55 e56 e57 e58 e59 e60 e61 e62 e63 e64 e65 e66 e67 e68 e69 e70 e71 e72 e73 e74 e75 e76 e77 e78 e79 e80 e81 e82 e83 e84 e85 e86 e87 e88 e89 e90 e91 e92 e93 e94 e95 e96 e97 e98 e99 e100 e101 e102 e103 e104 e105 e106 e107 e108 e109 e110 e111 e112 e113 e114 e115 e116 e117 e118 e119 e120 e121 e122 e123 e124 e125 e126 e127 e128 e129 e130 e131 e132 e133 e134 e135 e136 e137 e138 e139 e140 e141 e142 e143 e144 e145 e146 e147 e148 e149 e150 e151 e152 e153 e154 e155 h_0 h_1 h_6 h_7 h_8 h_9 h_10 h_11 h_12 h_13
  have h_0 : e0 = .slice a0 n0 c0 := h_0
  subst h_0
  have h_1 : e1 = .slice a1 n1 c1 := h_1
  subst h_1
  have h_6 : e6 = .slice a6 n6 c6 := h_6
  subst h_6
  have h_7 : e7 = .slice a7 n7 c7 := h_7
  subst h_7
  have h_8 : e8 = .bool p2 := h_8
  subst h_8
  have h_9 : e9 = .slice a9 n9 c9 := h_9
  subst h_9
  have h_10 : e10 = .slice a10 n10 c10 := h_10
  subst h_10
  have h_11 : e11 = .slice a11 n11 c11 := h_11
  subst h_11
  have h_12 : e12 = .slice a12 n12 c12 := h_12
  subst h_12
  have h_13 : e13 = .bool p2 := h_13
  subst h_13
  replace G7 : Gx u7 u11 := G7.trans hg
  replace x9 : OwnG u11 u7.heap.size h9 a9 n9 c9 f0 := hg.ownG x9
  replace x10 : OwnG u11 h9 h10 a10 n10 c10 f1 := hg.ownG x10
  replace k11 : OwnI u11 h10 a11 n11 c11 T5 := hg.ownI k11
  replace k14 : OwnI u11 R a12 n12 c12 T6 := hg.ownI k14
  clear hg
  have hT5 : T5.length ≤ 6 := hc.len.1
  have hT6 : T6.length ≤ 6 := hc.len.2
  have hn11 : n11 ≤ 6 := by rw [← k11.len]; exact hT5
  have hn12 : n12 ≤ 6 := by rw [← k14.len]; exact hT6
  have hs0 : B20 (sumLen f0) := by have := ht0; unfold tot at this; unfold B20; omega
  have hs1 : B20 (sumLen f1) := by have := ht1; unfold tot at this; unfold B20; omega
  have hn9 : B20 n9 := by have := ht0; have h := x9.len; unfold tot at this; unfold B20; omega
  have hn10 : B20 n10 := by have := ht1; have h := x10.len; unfold tot at this; unfold B20; omega
  clear hT5 hT6
  refine Gw.ctl rfl (fun w => stepG_seq (x := cl (ct 10 bXE)) (y := (ct 11 bXE))) ?_
  refine Gw.seg CC RR (f := 6) (N := fun a' u' => (a'.tmps.size = 156 ∧ a'.defers = [] ∧ a'.tmps.getD 0 undef = .slice a0 n0 c0 ∧ a'.tmps.getD 1 undef = .slice a1 n1 c1 ∧ a'.tmps.getD 6 undef = .slice a6 n6 c6 ∧ a'.tmps.getD 7 undef = .slice a7 n7 c7 ∧ a'.tmps.getD 8 undef = .bool p2 ∧ a'.tmps.getD 9 undef = .slice a9 n9 c9 ∧ a'.tmps.getD 10 undef = .slice a10 n10 c10 ∧ a'.tmps.getD 11 undef = .slice a11 n11 c11 ∧ a'.tmps.getD 12 undef = .slice a12 n12 c12 ∧ a'.tmps.getD 13 undef = .bool p2)) (Rt := fun a' u' => False) rfl (kn_nil rfl) rfl (by kernel_rfl) (fun _ _ _ _ h => h) (fun _ _ _ _ h => h) (fun t d => ?_) (fun A u12 hg h => ?_) fun _ _ _ _ _ h => h.elim
  · have K11 : Ints (World.re u11 t d) a11 n11 T5 := k11.ints
    have K12 : Ints (World.re u11 t d) a12 n12 T6 := k14.ints
    have I6 : Ints (World.re u11 t d) a6 n6 T5 := G7.ints i6
    have I7 : Ints (World.re u11 t d) a7 n7 T6 := G7.ints i7
    generalize World.re u11 t d = v at K11 K12 I6 I7
    simp only [bXE, cl, cr, ct, co, Try.f6, Option.getD_some]
    have hb : (p2 != p2) = false := by cases p2 <;> rfl
    have HE1 := Lib.hid (same_refl T5)
    have HE2 := Lib.hid (same_refl T6)
    go_wp2_with fail
    refine (eqIntS_is K11 I6 HE1.out).mono ?_; rintro e w1 ⟨rfl, d1⟩
    go_wp2_with fail
    refine (eqIntS_is (K12.ext d1.ext) (I7.ext d1.ext) HE2.out).mono ?_; rintro e w2 ⟨rfl, d2⟩
    have HE := Lib.hid ((d1.ext (r := none)).trans (d2.ext (r := none)))
    clear d1 d2
    go_wp2_with fail
    exact ⟨⟨rfl, rfl, rfl, rfl, rfl, rfl, rfl, rfl, rfl, rfl, rfl, rfl⟩, HE.out⟩
  have hA := h
  clear h
  obtain ⟨T, ds⟩ := A
  obtain ⟨hsz, hds, h_0, h_1, h_6, h_7, h_8, h_9, h_10, h_11, h_12, h_13⟩ := hA
  obtain rfl : ds = [] := hds
  try clear hds
  replace hsz : T.size = 156 := hsz
  revert h_0 h_1 h_6 h_7 h_8 h_9 h_10 h_11 h_12 h_13
  revert hsz
  revert T
  refine arr156 ?_
  intro e0 e1 e2 e3 e4 e5 e6 e7 e8 e9 e10 e11 e12 e13 e14 e15 e16 e17 e18 e19 e20 e21 e22 e23 e24 e25 e26 e27 e28 e29 e30 e31 e32 e33 e34 e35 e36 e37 e38 e39 e40 e41 e42 e43 e44 e45 e46 e47 e48 e49 e50 e51 e52 e53 e54 e55 e56 e57 e58 e59 e60 e61 e62 e63 e64 e65 e66 e67 e68 e69 e70 e71 e72 e73 e74 e75 e76 e77 e78 e79 e80 e81 e82 e83 e84 e85 e86 e87 e88 e89 e90 e91 e92 e93 e94 e95 e96 e97 e98 e99 e100 e101 e102 e103 e104 e105 e106 e107 e108 e109 e110 e111 e112 e113 e114 e115 e116 e117 e118 e119 e120 e121 e122 e123 e124 e125 e126 e127 e128 e129 e130 e131 e132 e133 e134 e135 e136 e137 e138 e139 e140 e141 e142 e143 e144 e145 e146 e147 e148 e149 e150 e151 e152 e153 e154 e155 h_0 h_1 h_6 h_7 h_8 h_9 h_10 h_11 h_12 h_13
  have h_0 : e0 = .slice a0 n0 c0 := h_0
  subst h_0
  have h_1 : e1 = .slice a1 n1 c1 := h_1
  subst h_1
  have h_6 : e6 = .slice a6 n6 c6 := h_6
  subst h_6
  have h_7 : e7 = .slice a7 n7 c7 := h_7
  subst h_7
  have h_8 : e8 = .bool p2 := h_8
  subst h_8
  have h_9 : e9 = .slice a9 n9 c9 := h_9
  subst h_9
  have h_10 : e10 = .slice a10 n10 c10 := h_10
  subst h_10
  have h_11 : e11 = .slice a11 n11 c11 := h_11
  subst h_11
  have h_12 : e12 = .slice a12 n12 c12 := h_12
  subst h_12
  have h_13 : e13 = .bool p2 := h_13
  subst h_13
  replace G7 : Gx u7 u12 := G7.trans hg
  replace x9 : OwnG u12 u7.heap.size h9 a9 n9 c9 f0 := hg.ownG x9
  replace x10 : OwnG u12 h9 h10 a10 n10 c10 f1 := hg.ownG x10
  replace k11 : OwnI u12 h10 a11 n11 c11 T5 := hg.ownI k11
  replace k14 : OwnI u12 R a12 n12 c12 T6 := hg.ownI k14
  clear hg
  refine Gw.ctl rfl (fun w => stepG_seq (x := cl (ct 11 bXE)) (y := (ct 12 bXE))) ?_
  refine Gw.seg CC RR (f := 6) (N := fun a' u' => (a'.tmps.size = 156 ∧ a'.defers = [] ∧ a'.tmps.getD 0 undef = .slice a0 n0 c0 ∧ a'.tmps.getD 1 undef = .slice a1 n1 c1 ∧ a'.tmps.getD 6 undef = .slice a6 n6 c6 ∧ a'.tmps.getD 7 undef = .slice a7 n7 c7 ∧ a'.tmps.getD 8 undef = .bool p2 ∧ a'.tmps.getD 9 undef = .slice a9 n9 c9 ∧ a'.tmps.getD 10 undef = .slice a10 n10 c10 ∧ a'.tmps.getD 11 undef = .slice a11 n11 c11 ∧ a'.tmps.getD 12 undef = .slice a12 n12 c12 ∧ a'.tmps.getD 13 undef = .bool p2)) (Rt := fun a' u' => False) rfl (kn_nil rfl) rfl (by kernel_rfl) (fun _ _ _ _ h => h) (fun _ _ _ _ h => h) (fun t d => ?_) (fun A u13 hg h => ?_) fun _ _ _ _ _ h => h.elim
  · have H : Fam (World.re u12 t d) a0 n0 f0 := G7.fam h0
    have X : Fam (World.re u12 t d) a9 n9 f0 := x9.fam
    generalize World.re u12 t d = v at H X
    simp only [bXE, cl, cr, ct, co, Try.f6, Option.getD_some]
    have HT := Lib.hid ht0
    have HS := Lib.hid (sameF_refl f0)
    clear ht0 ht1
    go_wp2_with fail
    refine (toIntSS_any H HT.out).mono ?_; rintro e w1 ⟨b1, k1, d1, rfl, o1, e1⟩
    go_wp2_with fail
    refine (eqIntSS_is (X.ext e1) o1.ownF.fam HS.out).mono ?_; rintro e w2 ⟨rfl, d2⟩
    have HE := Lib.hid (e1.trans (d2.ext (r := none)))
    clear o1 e1 d2
    go_wp2_with fail
    exact ⟨⟨rfl, rfl, rfl, rfl, rfl, rfl, rfl, rfl, rfl, rfl, rfl, rfl⟩, HE.out⟩
  have hA := h
  clear h
  obtain ⟨T, ds⟩ := A
  obtain ⟨hsz, hds, h_0, h_1, h_6, h_7, h_8, h_9, h_10, h_11, h_12, h_13⟩ := hA
  obtain rfl : ds = [] := hds
  try clear hds
  replace hsz : T.size = 156 := hsz
  revert h_0 h_1 h_6 h_7 h_8 h_9 h_10 h_11 h_12 h_13
  revert hsz
  revert T
  refine arr156 ?_
  intro e0 e1 e2 e3 e4 e5 e6 e7 e8 e9 e10 e11 e12 e13 e14 e15 e16 e17 e18 e19 e20 e21 e22 e23 e24 e25 e26 e27 e28 e29 e30 e31 e32 e33 e34 e35 e36 e37 e38 e39 e40 e41 e42 e43 e44 e45 e46 e47 e48 e49 e50 e51 e52 e53 e54 e55 e56 e57 e58 e59 e60 e61 e62 e63 e64 e65 e66 e67 e68 e69 e70 e71 e72 e73 e74 e75 e76 e77 e78 e79 e80 e81 e82 e83 e84 e85 e86 e87 e88 e89 e90 e91 e92 e93 e94 e95 e96 e97 e98 e99 e100 e101 e102 e103 e104 e105 e106 e107 e108 e109 e110 e111 e112 e113 e114 e115 e116 e117 e118 e119 e120 e121 e122 e123 e124 e125 e126 e127 e128 e129 e130 e131 e132 e133 e134 e135 e136 e137 e138 e139 e140 e141 e142 e143 e144 e145 e146 e147 e148 e149 e150 e151 e152 e153 e154 e155 h_0 h_1 h_6 h_7 h_8 h_9 h_10 h_11 h_12 h_13
  have h_0 : e0 = .slice a0 n0 c0 := h_0
  subst h_0
  have h_1 : e1 = .slice a1 n1 c1 := h_1
  subst h_1
  have h_6 : e6 = .slice a6 n6 c6 := h_6
  subst h_6
  have h_7 : e7 = .slice a7 n7 c7 := h_7
  subst h_7
  have h_8 : e8 = .bool p2 := h_8
  subst h_8
  have h_9 : e9 = .slice a9 n9 c9 := h_9
  subst h_9
  have h_10 : e10 = .slice a10 n10 c10 := h_10
  subst h_10
  have h_11 : e11 = .slice a11 n11 c11 := h_11
  subst h_11
  have h_12 : e12 = .slice a12 n12 c12 := h_12
  subst h_12
  have h_13 : e13 = .bool p2 := h_13
  subst h_13
  replace G7 : Gx u7 u13 := G7.trans hg
  replace x9 : OwnG u13 u7.heap.size h9 a9 n9 c9 f0 := hg.ownG x9
  replace x10 : OwnG u13 h9 h10 a10 n10 c10 f1 := hg.ownG x10
  replace k11 : OwnI u13 h10 a11 n11 c11 T5 := hg.ownI k11
  replace k14 : OwnI u13 R a12 n12 c12 T6 := hg.ownI k14
  clear hg
  refine Gw.ctl rfl (fun w => stepG_seq (x := cl (ct 12 bXE)) (y := (ct 13 bXE))) ?_
  refine Gw.seg CC RR (f := 6) (N := fun a' u' => (a'.tmps.size = 156 ∧ a'.defers = [] ∧ a'.tmps.getD 0 undef = .slice a0 n0 c0 ∧ a'.tmps.getD 1 undef = .slice a1 n1 c1 ∧ a'.tmps.getD 6 undef = .slice a6 n6 c6 ∧ a'.tmps.getD 7 undef = .slice a7 n7 c7 ∧ a'.tmps.getD 8 undef = .bool p2 ∧ a'.tmps.getD 9 undef = .slice a9 n9 c9 ∧ a'.tmps.getD 10 undef = .slice a10 n10 c10 ∧ a'.tmps.getD 11 undef = .slice a11 n11 c11 ∧ a'.tmps.getD 12 undef = .slice a12 n12 c12 ∧ a'.tmps.getD 13 undef = .bool p2)) (Rt := fun a' u' => False) rfl (kn_nil rfl) rfl (by kernel_rfl) (fun _ _ _ _ h => h) (fun _ _ _ _ h => h) (fun t d => ?_) (fun A u14 hg h => ?_) fun _ _ _ _ _ h => h.elim
  · have H : Fam (World.re u13 t d) a1 n1 f1 := G7.fam h1
    have X : Fam (World.re u13 t d) a10 n10 f1 := x10.fam
    generalize World.re u13 t d = v at H X
    simp only [bXE, cl, cr, ct, co, Try.f6, Option.getD_some]
    have HT := Lib.hid ht1
    have HS := Lib.hid (sameF_refl f1)
    clear ht0 ht1
    go_wp2_with fail
    refine (toIntSS_any H HT.out).mono ?_; rintro e w1 ⟨b1, k1, d1, rfl, o1, e1⟩
    go_wp2_with fail
    refine (eqIntSS_is (X.ext e1) o1.ownF.fam HS.out).mono ?_; rintro e w2 ⟨rfl, d2⟩
    have HE := Lib.hid (e1.trans (d2.ext (r := none)))
    clear o1 e1 d2
    go_wp2_with fail
    exact ⟨⟨rfl, rfl, rfl, rfl, rfl, rfl, rfl, rfl, rfl, rfl, rfl, rfl⟩, HE.out⟩
  have hA := h
  clear h
  obtain ⟨T, ds⟩ := A
  obtain ⟨hsz, hds, h_0, h_1, h_6, h_7, h_8, h_9, h_10, h_11, h_12, h_13⟩ := hA
  obtain rfl : ds = [] := hds
  try clear hds
  replace hsz : T.size = 156 := hsz
  revert h_0 h_1 h_6 h_7 h_8 h_9 h_10 h_11 h_12 h_13
  revert hsz
  revert T
  refine arr156 ?_
  intro e0 e1 e2 e3 e4 e5 e6 e7 e8 e9 e10 e11 e12 e13 e14 e15 e16 e17 e18 e19 e20 e21 e22 e23 e24 e25 e26 e27 e28 e29 e30 e31 e32 e33 e34 e35 e36 e37 e38 e39 e40 e41 e42 e43 e44 e45 e46 e47 e48 e49 e50 e51 e52 e53 e54 e55 e56 e57 e58 e59 e60 e61 e62 e63 e64 e65 e66 e67 e68 e69 e70 e71 e72 e73 e74 e75 e76 e77 e78 e79 e80 e81 e82 e83 e84 e85 e86 e87 e88 e89 e90 e91 e92 e93 e94 e95 e96 e97 e98 e99 e100 e101 e102 e103 e104 e105 e106 e107 e108 e109 e110 e111 e112 e113 e114 e115 e116 e117 e118 e119 e120 e121 e122 e123 e124 e125 e126 e127 e128 e129 e130 e131 e132 e133 e134 e135 e136 e137 e138 e139 e140 e141 e142 e143 e144 e145 e146 e147 e148 e149 e150 e151 e152 e153 e154 e155 h_0 h_1 h_6 h_7 h_8 h_9 h_10 h_11 h_12 h_13
  have h_0 : e0 = .slice a0 n0 c0 := h_0
  subst h_0
  have h_1 : e1 = .slice a1 n1 c1 := h_1
  subst h_1
  have h_6 : e6 = .slice a6 n6 c6 := h_6
  subst h_6
  have h_7 : e7 = .slice a7 n7 c7 := h_7
  subst h_7
  have h_8 : e8 = .bool p2 := h_8
  subst h_8
  have h_9 : e9 = .slice a9 n9 c9 := h_9
  subst h_9
  have h_10 : e10 = .slice a10 n10 c10 := h_10
  subst h_10
  have h_11 : e11 = .slice a11 n11 c11 := h_11
  subst h_11
  have h_12 : e12 = .slice a12 n12 c12 := h_12
  subst h_12
  have h_13 : e13 = .bool p2 := h_13
  subst h_13
  replace G7 : Gx u7 u14 := G7.trans hg
  replace x9 : OwnG u14 u7.heap.size h9 a9 n9 c9 f0 := hg.ownG x9
  replace x10 : OwnG u14 h9 h10 a10 n10 c10 f1 := hg.ownG x10
  replace k11 : OwnI u14 h10 a11 n11 c11 T5 := hg.ownI k11
  replace k14 : OwnI u14 R a12 n12 c12 T6 := hg.ownI k14
  clear hg
  refine Gw.ctl rfl (fun w => stepG_seq (x := cl (ct 13 bXE)) (y := (ct 14 bXE))) ?_
  refine Gw.seg CC RR (f := 6) (N := fun a' u' => (a'.tmps.size = 156 ∧ a'.defers = [] ∧ a'.tmps.getD 0 undef = .slice a0 n0 c0 ∧ a'.tmps.getD 1 undef = .slice a1 n1 c1 ∧ a'.tmps.getD 6 undef = .slice a6 n6 c6 ∧ a'.tmps.getD 7 undef = .slice a7 n7 c7 ∧ a'.tmps.getD 8 undef = .bool p2 ∧ a'.tmps.getD 9 undef = .slice a9 n9 c9 ∧ a'.tmps.getD 10 undef = .slice a10 n10 c10 ∧ a'.tmps.getD 11 undef = .slice a11 n11 c11 ∧ a'.tmps.getD 12 undef = .slice a12 n12 c12 ∧ a'.tmps.getD 13 undef = .bool p2 ∧ a'.tmps.getD 14 undef = .int .i64 1)) (Rt := fun a' u' => False) rfl (kn_nil rfl) rfl (by kernel_rfl) (fun _ _ _ _ h => h) (fun _ _ _ _ h => h) (fun t d => ?_) (fun A u15 hg h => ?_) fun _ _ _ _ _ h => h.elim
  · generalize World.re u14 t d = v
    simp only [bXE, cl, cr, ct, co, Try.f6, Option.getD_some]
    go_wp2_with fail
    exact ⟨⟨rfl, rfl, rfl, rfl, rfl, rfl, rfl, rfl, rfl, rfl, rfl, rfl, rfl⟩, Ext.refl _ _⟩
  have hA := h
  clear h
  obtain ⟨T, ds⟩ := A
  obtain ⟨hsz, hds, h_0, h_1, h_6, h_7, h_8, h_9, h_10, h_11, h_12, h_13, h_14⟩ := hA
  obtain rfl : ds = [] := hds
  try clear hds
  replace hsz : T.size = 156 := hsz
  revert h_0 h_1 h_6 h_7 h_8 h_9 h_10 h_11 h_12 h_13 h_14
  revert hsz
  revert T
  refine arr156 ?_
  intro e0 e1 e2 e3 e4 e5 e6 e7 e8 e9 e10 e11 e12 e13 e14 e15 e16 e17 e18 e19 e20 e21 e22 e23 e24 e25 e26 e27 e28 e29 e30 e31 e32 e33 e34 e35 e36 e37 e38 e39 e40 e41 e42 e43 e44 e45 e46 e47 e48 e49 e50 e51 e52 e53 e54 e55 e56 e57 e58 e59 e60 e61 e62 e63 e64 e65 e66 e67 e68 e69 e70 e71 e72 e73 e74 e75 e76 e77 e78 e79 e80 e81 e82 e83 e84 e85 e86 e87 e88 e89 e90 e91 e92 e93 e94 e95 e96 e97 e98 e99 e100 e101 e102 e103 e104 e105 e106 e107 e108 e109 e110 e111 e112 e113 e114 e115 e116 e117 e118 e119 e120 e121 e122 e123 e124 e125 e126 e127 e128 e129 e130 e131 e132 e133 e134 e135 e136 e137 e138 e139 e140 e141 e142 e143 e144 e145 e146 e147 e148 e149 e150 e151 e152 e153 e154 e155 h_0 h_1 h_6 h_7 h_8 h_9 h_10 h_11 h_12 h_13 h_14
  have h_0 : e0 = .slice a0 n0 c0 := h_0
  subst h_0
  have h_1 : e1 = .slice a1 n1 c1 := h_1
  subst h_1
  have h_6 : e6 = .slice a6 n6 c6 := h_6
  subst h_6
  have h_7 : e7 = .slice a7 n7 c7 := h_7
  subst h_7
  have h_8 : e8 = .bool p2 := h_8
  subst h_8
  have h_9 : e9 = .slice a9 n9 c9 := h_9
  subst h_9
  have h_10 : e10 = .slice a10 n10 c10 := h_10
  subst h_10
  have h_11 : e11 = .slice a11 n11 c11 := h_11
  subst h_11
  have h_12 : e12 = .slice a12 n12 c12 := h_12
  subst h_12
  have h_13 : e13 = .bool p2 := h_13
  subst h_13
  have h_14 : e14 = .int .i64 1 := h_14
  subst h_14
  replace G7 : Gx u7 u15 := G7.trans hg
  replace x9 : OwnG u15 u7.heap.size h9 a9 n9 c9 f0 := hg.ownG x9
  replace x10 : OwnG u15 h9 h10 a10 n10 c10 f1 := hg.ownG x10
  replace k11 : OwnI u15 h10 a11 n11 c11 T5 := hg.ownI k11
  replace k14 : OwnI u15 R a12 n12 c12 T6 := hg.ownI k14
  clear hg
  refine Gw.ctl rfl (fun w => stepG_seq (x := cl (ct 14 bXE)) (y := (ct 15 bXE))) ?_
  refine Gw.segG CC RR (f := 6) (N := fun a' u' => ∃ z1, (a'.tmps.size = 156 ∧ a'.defers = [] ∧ a'.tmps.getD 0 undef = .slice a0 n0 c0 ∧ a'.tmps.getD 1 undef = .slice a1 n1 c1 ∧ a'.tmps.getD 6 undef = .slice a6 n6 c6 ∧ a'.tmps.getD 7 undef = .slice a7 n7 c7 ∧ a'.tmps.getD 8 undef = .bool p2 ∧ a'.tmps.getD 9 undef = .slice a9 n9 c9 ∧ a'.tmps.getD 10 undef = .slice a10 n10 c10 ∧ a'.tmps.getD 11 undef = .slice a11 n11 c11 ∧ a'.tmps.getD 12 undef = .slice a12 n12 c12 ∧ a'.tmps.getD 13 undef = .bool p2 ∧ a'.tmps.getD 14 undef = .int .i64 z1) ∧ Zok z1 ∧ Gx u7 u' ∧ OwnG u' h9 h10 a10 n10 c10 f1 ∧ OwnI u' h10 a11 n11 c11 T5 ∧ OwnI u' R a12 n12 c12 T6) (Rt := fun a' u' => False) rfl (kn_nil rfl) rfl (by kernel_rfl) (fun _ _ _ _ ⟨z, h1, hz, hg, r⟩ => ⟨z, h1, hz, hg.re _ _, r⟩) (fun _ _ _ _ h => h) (fun t d GU => ?_) (fun A u16 h => ?_) fun _ _ _ _ h => h.elim
  · have HG : Gx u7 (World.re u15 t d) := G7.re _ _
    have X9 : OwnG (World.re u15 t d) u7.heap.size h9 a9 n9 c9 f0 := x9
    have X10 : OwnG (World.re u15 t d) h9 h10 a10 n10 c10 f1 := x10
    have O11 : OwnI (World.re u15 t d) h10 a11 n11 c11 T5 := k11
    have O12 : OwnI (World.re u15 t d) R a12 n12 c12 T6 := k14
    generalize World.re u15 t d = v at GU HG X9 X10 O11 O12
    simp only [bXE, cl, cr, ct, co, Try.f6, Option.getD_some]
    have HS0 := Lib.hid (show sumLen f0 ≤ 1048576 from hs0)
    have HN9 := Lib.hid (show n9 ≤ 1048576 from hn9)
    clear hs0 hs1 hn9 hn10 ht0 ht1
    go_wp2_with fail
    refine (markIntSS_any X9 (by omega) (by omega) HS0.out HN9.out).mono ?_; rintro e w1 ⟨rfl, om, cm⟩
    have hz : Zok (1 + (sumLen f0 : Int)) := by have := HS0.out; unfold Zok; omega
    have r1 := HG.of_chg cm (Nat.le_refl _)
    have r2 := X10.chg cm (Nat.le_refl _)
    have r3 := O11.chg cm l10
    have r4 := O12.chg cm (Nat.le_trans l10 k13)
    have r5 := GU.of_chg cm lu
    clear om cm
    go_wp2_with fail
    exact ⟨⟨_, ⟨rfl, rfl, rfl, rfl, rfl, rfl, rfl, rfl, rfl, rfl, rfl, rfl, rfl⟩, hz, r1, r2, r3, r4⟩, r5⟩
  clear x9 x10 k11 k14 G7
  obtain ⟨z1, hA, z1h, G7, x10, k11, k14⟩ := h
  obtain ⟨T, ds⟩ := A
  obtain ⟨hsz, hds, h_0, h_1, h_6, h_7, h_8, h_9, h_10, h_11, h_12, h_13, h_14⟩ := hA
  obtain rfl : ds = [] := hds
  try clear hds
  replace hsz : T.size = 156 := hsz
  revert h_0 h_1 h_6 h_7 h_8 h_9 h_10 h_11 h_12 h_13 h_14
  revert hsz
  revert T
  refine arr156 ?_
  intro e0 e1 e2 e3 e4 e5 e6 e7 e8 e9 e10 e11 e12 e13 e14 e15 e16 e17 e18 e19 e20 e21 e22 e23 e24 e25 e26 e27 e28 e29 e30 e31 e32 e33 e34 e35 e36 e37 e38 e39 e40 e41 e42 e43 e44 e45 e46 e47 e48 e49 e50 e51 e52 e53 e54 e55 e56 e57 e58 e59 e60 e61 e62 e63 e64 e65 e66 e67 e68 e69 e70 e71 e72 e73 e74 e75 e76 e77 e78 e79 e80 e81 e82 e83 e84 e85 e86 e87 e88 e89 e90 e91 e92 e93 e94 e95 e96 e97 e98 e99 e100 e101 e102 e103 e104 e105 e106 e107 e108 e109 e110 e111 e112 e113 e114 e115 e116 e117 e118 e119 e120 e121 e122 e123 e124 e125 e126 e127 e128 e129 e130 e131 e132 e133 e134 e135 e136 e137 e138 e139 e140 e141 e142 e143 e144 e145 e146 e147 e148 e149 e150 e151 e152 e153 e154 e155 h_0 h_1 h_6 h_7 h_8 h_9 h_10 h_11 h_12 h_13 h_14
  have h_0 : e0 = .slice a0 n0 c0 := h_0
  subst h_0
  have h_1 : e1 = .slice a1 n1 c1 := h_1
  subst h_1
  have h_6 : e6 = .slice a6 n6 c6 := h_6
  subst h_6
  have h_7 : e7 = .slice a7 n7 c7 := h_7
  subst h_7
  have h_8 : e8 = .bool p2 := h_8
  subst h_8
  have h_9 : e9 = .slice a9 n9 c9 := h_9
  subst h_9
  have h_10 : e10 = .slice a10 n10 c10 := h_10
  subst h_10
  have h_11 : e11 = .slice a11 n11 c11 := h_11
  subst h_11
  have h_12 : e12 = .slice a12 n12 c12 := h_12
  subst h_12
  have h_13 : e13 = .bool p2 := h_13
  subst h_13
  have h_14 : e14 = .int .i64 z1 := h_14
  subst h_14
  refine Gw.ctl rfl (fun w => stepG_seq (x := cl (ct 15 bXE)) (y := (ct 16 bXE))) ?_
  refine Gw.segG CC RR (f := 6) (N := fun a' u' => ∃ z2, (a'.tmps.size = 156 ∧ a'.defers = [] ∧ a'.tmps.getD 0 undef = .slice a0 n0 c0 ∧ a'.tmps.getD 1 undef = .slice a1 n1 c1 ∧ a'.tmps.getD 6 undef = .slice a6 n6 c6 ∧ a'.tmps.getD 7 undef = .slice a7 n7 c7 ∧ a'.tmps.getD 8 undef = .bool p2 ∧ a'.tmps.getD 9 undef = .slice a9 n9 c9 ∧ a'.tmps.getD 10 undef = .slice a10 n10 c10 ∧ a'.tmps.getD 11 undef = .slice a11 n11 c11 ∧ a'.tmps.getD 12 undef = .slice a12 n12 c12 ∧ a'.tmps.getD 13 undef = .bool p2 ∧ a'.tmps.getD 14 undef = .int .i64 z2) ∧ Zok2 z2 ∧ Gx u7 u' ∧ OwnI u' h10 a11 n11 c11 T5 ∧ OwnI u' R a12 n12 c12 T6) (Rt := fun a' u' => False) rfl (kn_nil rfl) rfl (by kernel_rfl) (fun _ _ _ _ ⟨z, h1, hz, hg, r⟩ => ⟨z, h1, hz, hg.re _ _, r⟩) (fun _ _ _ _ h => h) (fun t d GU => ?_) (fun A u17 h => ?_) fun _ _ _ _ h => h.elim
  · have HG : Gx u7 (World.re u16 t d) := G7.re _ _
    have X10 : OwnG (World.re u16 t d) h9 h10 a10 n10 c10 f1 := x10
    have O11 : OwnI (World.re u16 t d) h10 a11 n11 c11 T5 := k11
    have O12 : OwnI (World.re u16 t d) R a12 n12 c12 T6 := k14
    generalize World.re u16 t d = v at GU HG X10 O11 O12
    simp only [bXE, cl, cr, ct, co, Try.f6, Option.getD_some]
    have HS1 := Lib.hid (show sumLen f1 ≤ 1048576 from hs1)
    have HN10 := Lib.hid (show n10 ≤ 1048576 from hn10)
    have HZ := z1h
    unfold Zok at HZ
    clear hs0 hs1 hn9 hn10 ht0 ht1 z1h
    obtain ⟨HZ0, HZ1⟩ := HZ
    go_wp2_with fail
    refine (markIntSS_any X10 HZ0 (by omega) HS1.out HN10.out).mono ?_; rintro e w1 ⟨rfl, om, cm⟩
    have hz : Zok2 (z1 + (sumLen f1 : Int)) := by have := HS1.out; unfold Zok2; omega
    have r1 := HG.of_chg cm l9
    have r3 := O11.chg cm (Nat.le_refl _)
    have r4 := O12.chg cm k13
    have r5 := GU.of_chg cm (Nat.le_trans lu l9)
    clear om cm
    go_wp2_with fail
    exact ⟨⟨_, ⟨rfl, rfl, rfl, rfl, rfl, rfl, rfl, rfl, rfl, rfl, rfl, rfl, rfl⟩, hz, r1, r3, r4⟩, r5⟩
  clear x10 k11 k14 G7 z1h
  obtain ⟨z2, hA, z2h, G7, k11, k14⟩ := h
  obtain ⟨T, ds⟩ := A
  obtain ⟨hsz, hds, h_0, h_1, h_6, h_7, h_8, h_9, h_10, h_11, h_12, h_13, h_14⟩ := hA
  obtain rfl : ds = [] := hds
  try clear hds
  replace hsz : T.size = 156 := hsz
  revert h_0 h_1 h_6 h_7 h_8 h_9 h_10 h_11 h_12 h_13 h_14
  revert hsz
  revert T
  refine arr156 ?_
  intro e0 e1 e2 e3 e4 e5 e6 e7 e8 e9 e10 e11 e12 e13 e14 e15 e16 e17 e18 e19 e20 e21 e22 e23 e24 e25 e26 e27 e28 e29 e30 e31 e32 e33 e34 e35 e36 e37 e38 e39 e40 e41 e42 e43 e44 e45 e46 e47 e48 e49 e50 e51 e52 e53 e54 e55 e56 e57 e58 e59 e60 e61 e62 e63 e64 e65 e66 e67 e68 e69 e70 e71 e72 e73 e74 e75 e76 e77 e78 e79 e80 e81 e82 e83 e84 e85 e86 e87 e88 e89 e90 e91 e92 e93 e94 e95 e96 e97 e98 e99 e100 e101 e102 e103 e104 e105 e106 e107 e108 e109 e110 e111 e112 e113 e114 e115 e116 e117 e118 e119 e120 e121 e122 e123 e124 e125 e126 e127 e128 e129 e130 e131 e132 e133 e134 e135 e136 e137 e138 e139 e140 e141 e142 e143 e144 e145 e146 e147 e148 e149 e150 e151 e152 e153 e154 e155 h_0 h_1 h_6 h_7 h_8 h_9 h_10 h_11 h_12 h_13 h_14
  have h_0 : e0 = .slice a0 n0 c0 := h_0
  subst h_0
  have h_1 : e1 = .slice a1 n1 c1 := h_1
  subst h_1
  have h_6 : e6 = .slice a6 n6 c6 := h_6
  subst h_6
  have h_7 : e7 = .slice a7 n7 c7 := h_7
  subst h_7
  have h_8 : e8 = .bool p2 := h_8
  subst h_8
  have h_9 : e9 = .slice a9 n9 c9 := h_9
  subst h_9
  have h_10 : e10 = .slice a10 n10 c10 := h_10
  subst h_10
  have h_11 : e11 = .slice a11 n11 c11 := h_11
  subst h_11
  have h_12 : e12 = .slice a12 n12 c12 := h_12
  subst h_12
  have h_13 : e13 = .bool p2 := h_13
  subst h_13
  have h_14 : e14 = .int .i64 z2 := h_14
  subst h_14
  refine Gw.ctl rfl (fun w => stepG_seq (x := cl (ct 16 bXE)) (y := (ct 17 bXE))) ?_
  refine Gw.seg CC RR (f := 6) (N := fun a' u' => (a'.tmps.size = 156 ∧ a'.defers = [] ∧ a'.tmps.getD 0 undef = .slice a0 n0 c0 ∧ a'.tmps.getD 1 undef = .slice a1 n1 c1 ∧ a'.tmps.getD 6 undef = .slice a6 n6 c6 ∧ a'.tmps.getD 7 undef = .slice a7 n7 c7 ∧ a'.tmps.getD 8 undef = .bool p2 ∧ a'.tmps.getD 11 undef = .slice a11 n11 c11 ∧ a'.tmps.getD 12 undef = .slice a12 n12 c12 ∧ a'.tmps.getD 13 undef = .bool p2)) (Rt := fun a' u' => False) rfl (kn_nil rfl) rfl (by kernel_rfl) (fun _ _ _ _ h => h) (fun _ _ _ _ h => h) (fun t d => ?_) (fun A u18 hg h => ?_) fun _ _ _ _ _ h => h.elim
  · have K11 : Ints (World.re u17 t d) a11 n11 T5 := k11.ints
    have K12 : Ints (World.re u17 t d) a12 n12 T6 := k14.ints
    have I6 : Ints (World.re u17 t d) a6 n6 T5 := G7.ints i6
    have I7 : Ints (World.re u17 t d) a7 n7 T6 := G7.ints i7
    generalize World.re u17 t d = v at K11 K12 I6 I7
    simp only [bXE, cl, cr, ct, co, Try.f6, Option.getD_some]
    have hz := z2h
    unfold Zok2 at hz
    obtain ⟨hz0, _⟩ := hz
    have hzn : ¬ (z2 < 0) := by omega
    clear z2h
    have hb : (p2 != p2) = false := by cases p2 <;> rfl
    have HE1 := Lib.hid (same_refl T5)
    have HE2 := Lib.hid (same_refl T6)
    go_wp2_with fail
    refine (eqIntS_is K11 I6 HE1.out).mono ?_; rintro e w1 ⟨rfl, d1⟩
    go_wp2_with fail
    refine (eqIntS_is (K12.ext d1.ext) (I7.ext d1.ext) HE2.out).mono ?_; rintro e w2 ⟨rfl, d2⟩
    have HE := Lib.hid ((d1.ext (r := none)).trans (d2.ext (r := none)))
    clear d1 d2
    go_wp2_with fail
    exact ⟨⟨rfl, rfl, rfl, rfl, rfl, rfl, rfl, rfl, rfl, rfl⟩, HE.out⟩
  have hA := h
  clear h
  obtain ⟨T, ds⟩ := A
  obtain ⟨hsz, hds, h_0, h_1, h_6, h_7, h_8, h_11, h_12, h_13⟩ := hA
  obtain rfl : ds = [] := hds
  try clear hds
  replace hsz : T.size = 156 := hsz
  revert h_0 h_1 h_6 h_7 h_8 h_11 h_12 h_13
  revert hsz
  revert T
  refine arr156 ?_
  intro e0 e1 e2 e3 e4 e5 e6 e7 e8 e9 e10 e11 e12 e13 e14 e15 e16 e17 e18 e19 e20 e21 e22 e23 e24 e25 e26 e27 e28 e29 e30 e31 e32 e33 e34 e35 e36 e37 e38 e39 e40 e41 e42 e43 e44 e45 e46 e47 e48 e49 e50 e51 e52 e53 e54 e55 e56 e57 e58 e59 e60 e61 e62 e63 e64 e65 e66 e67 e68 e69 e70 e71 e72 e73 e74 e75 e76 e77 e78 e79 e80 e81 e82 e83 e84 e85 e86 e87 e88 e89 e90 e91 e92 e93 e94 e95 e96 e97 e98 e99 e100 e101 e102 e103 e104 e105 e106 e107 e108 e109 e110 e111 e112 e113 e114 e115 e116 e117 e118 e119 e120 e121 e122 e123 e124 e125 e126 e127 e128 e129 e130 e131 e132 e133 e134 e135 e136 e137 e138 e139 e140 e141 e142 e143 e144 e145 e146 e147 e148 e149 e150 e151 e152 e153 e154 e155 h_0 h_1 h_6 h_7 h_8 h_11 h_12 h_13
  have h_0 : e0 = .slice a0 n0 c0 := h_0
  subst h_0
  have h_1 : e1 = .slice a1 n1 c1 := h_1
  subst h_1
  have h_6 : e6 = .slice a6 n6 c6 := h_6
  subst h_6
  have h_7 : e7 = .slice a7 n7 c7 := h_7
  subst h_7
  have h_8 : e8 = .bool p2 := h_8
  subst h_8
  have h_11 : e11 = .slice a11 n11 c11 := h_11
  subst h_11
  have h_12 : e12 = .slice a12 n12 c12 := h_12
  subst h_12
  have h_13 : e13 = .bool p2 := h_13
  subst h_13
  replace G7 : Gx u7 u18 := G7.trans hg
  replace k11 : OwnI u18 h10 a11 n11 c11 T5 := hg.ownI k11
  replace k14 : OwnI u18 R a12 n12 c12 T6 := hg.ownI k14
  clear hg
  clear z2h
  refine Gw.ctl rfl (fun w => stepG_seq (x := cl (ct 17 bXE)) (y := (ct 18 bXE))) ?_
  refine Gw.seg CC RR (f := 6) (N := fun a' u' => (a'.tmps.size = 156 ∧ a'.defers = [] ∧ a'.tmps.getD 0 undef = .slice a0 n0 c0 ∧ a'.tmps.getD 1 undef = .slice a1 n1 c1 ∧ a'.tmps.getD 6 undef = .slice a6 n6 c6 ∧ a'.tmps.getD 7 undef = .slice a7 n7 c7 ∧ a'.tmps.getD 8 undef = .bool p2 ∧ a'.tmps.getD 11 undef = .slice a11 n11 c11 ∧ a'.tmps.getD 12 undef = .slice a12 n12 c12 ∧ a'.tmps.getD 13 undef = .bool p2 ∧ a'.tmps.getD 15 undef = .int .i64 1)) (Rt := fun a' u' => False) rfl (kn_nil rfl) rfl (by kernel_rfl) (fun _ _ _ _ h => h) (fun _ _ _ _ h => h) (fun t d => ?_) (fun A u19 hg h => ?_) fun _ _ _ _ _ h => h.elim
  · generalize World.re u18 t d = v
    simp only [bXE, cl, cr, ct, co, Try.f6, Option.getD_some]
    go_wp2_with fail
    exact ⟨⟨rfl, rfl, rfl, rfl, rfl, rfl, rfl, rfl, rfl, rfl, rfl⟩, Ext.refl _ _⟩
  have hA := h
  clear h
  obtain ⟨T, ds⟩ := A
  obtain ⟨hsz, hds, h_0, h_1, h_6, h_7, h_8, h_11, h_12, h_13, h_15⟩ := hA
  obtain rfl : ds = [] := hds
  try clear hds
  replace hsz : T.size = 156 := hsz
  revert h_0 h_1 h_6 h_7 h_8 h_11 h_12 h_13 h_15
  revert hsz
  revert T
  refine arr156 ?_
  intro e0 e1 e2 e3 e4 e5 e6 e7 e8 e9 e10 e11 e12 e13 e14 e15 e16 e17 e18 e19 e20 e21 e22 e23 e24 e25 e26 e27 e28 e29 e30 e31 e32 e33 e34 e35 e36 e37 e38 e39 e40 e41 e42 e43 e44 e45 e46 e47 e48 e49 e50 e51 e52 e53 e54 e55 e56 e57 e58 e59 e60 e61 e62 e63 e64 e65 e66 e67 e68 e69 e70 e71 e72 e73 e74 e75 e76 e77 e78 e79 e80 e81 e82 e83 e84 e85 e86 e87 e88 e89 e90 e91 e92 e93 e94 e95 e96 e97 e98 e99 e100 e101 e102 e103 e104 e105 e106 e107 e108 e109 e110 e111 e112 e113 e114 e115 e116 e117 e118 e119 e120 e121 e122 e123 e124 e125 e126 e127 e128 e129 e130 e131 e132 e133 e134 e135 e136 e137 e138 e139 e140 e141 e142 e143 e144 e145 e146 e147 e148 e149 e150 e151 e152 e153 e154 e155 h_0 h_1 h_6 h_7 h_8 h_11 h_12 h_13 h_15
  have h_0 : e0 = .slice a0 n0 c0 := h_0
  subst h_0
  have h_1 : e1 = .slice a1 n1 c1 := h_1
  subst h_1
  have h_6 : e6 = .slice a6 n6 c6 := h_6
  subst h_6
  have h_7 : e7 = .slice a7 n7 c7 := h_7
  subst h_7
  have h_8 : e8 = .bool p2 := h_8
  subst h_8
  have h_11 : e11 = .slice a11 n11 c11 := h_11
  subst h_11
  have h_12 : e12 = .slice a12 n12 c12 := h_12
  subst h_12
  have h_13 : e13 = .bool p2 := h_13
  subst h_13
  have h_15 : e15 = .int .i64 1 := h_15
  subst h_15
  replace G7 : Gx u7 u19 := G7.trans hg
  replace k11 : OwnI u19 h10 a11 n11 c11 T5 := hg.ownI k11
  replace k14 : OwnI u19 R a12 n12 c12 T6 := hg.ownI k14
  clear hg
  refine Gw.ctl rfl (fun w => stepG_seq (x := cl (ct 18 bXE)) (y := (ct 19 bXE))) ?_
  refine Gw.segG CC RR (f := 6) (N := fun a' u' => (a'.tmps.size = 156 ∧ a'.defers = [] ∧ a'.tmps.getD 0 undef = .slice a0 n0 c0 ∧ a'.tmps.getD 1 undef = .slice a1 n1 c1 ∧ a'.tmps.getD 6 undef = .slice a6 n6 c6 ∧ a'.tmps.getD 7 undef = .slice a7 n7 c7 ∧ a'.tmps.getD 8 undef = .bool p2 ∧ a'.tmps.getD 11 undef = .slice a11 n11 c11 ∧ a'.tmps.getD 12 undef = .slice a12 n12 c12 ∧ a'.tmps.getD 13 undef = .bool p2 ∧ a'.tmps.getD 15 undef = .int .i64 (1 + (n11 : Int))) ∧ Gx u7 u' ∧ OwnI u' h10 a11 n11 c11 (seqI 1 n11) ∧ OwnI u' R a12 n12 c12 T6) (Rt := fun a' u' => False) rfl (kn_nil rfl) rfl (by kernel_rfl) (fun _ _ _ _ ⟨h1, hg, r⟩ => ⟨h1, hg.re _ _, r⟩) (fun _ _ _ _ h => h) (fun t d GU => ?_) (fun A u20 h => ?_) fun _ _ _ _ h => h.elim
  · have HG : Gx u7 (World.re u19 t d) := G7.re _ _
    have O11 : OwnI (World.re u19 t d) h10 a11 n11 c11 T5 := k11
    have O12 : OwnI (World.re u19 t d) R a12 n12 c12 T6 := k14
    generalize World.re u19 t d = v at GU HG O11 O12
    simp only [bXE, cl, cr, ct, co, Try.f6, Option.getD_some]
    clear ht0 ht1 hs0 hs1 hn9 hn10
    go_wp2_with fail
    refine (markIntS_any O11 (by omega) (by omega) (by omega)).mono ?_; rintro e w1 ⟨rfl, om, gm⟩
    have hlo : ∀ k, (Value.slice a11 n11 c11).ownBlock = some k → h10 ≤ k := fun k hk => (World.ownsRow.lt O11 k hk).1
    have r1 := HG.of_grown gm fun k hk => Nat.le_trans l9 (Nat.le_trans l10 (hlo k hk))
    have r4 := O12.ext gm k12
    have r5 := GU.of_grown gm fun k hk => Nat.le_trans lu (Nat.le_trans l9 (Nat.le_trans l10 (hlo k hk)))
    clear gm hlo
    go_wp2_with fail
    exact ⟨⟨⟨rfl, rfl, rfl, rfl, rfl, rfl, rfl, rfl, rfl, rfl, rfl⟩, r1, om, r4⟩, r5⟩
  clear k11 k14 G7
  obtain ⟨hA, G7, k11, k14⟩ := h
  obtain ⟨T, ds⟩ := A
  obtain ⟨hsz, hds, h_0, h_1, h_6, h_7, h_8, h_11, h_12, h_13, h_15⟩ := hA
  obtain rfl : ds = [] := hds
  try clear hds
  replace hsz : T.size = 156 := hsz
  revert h_0 h_1 h_6 h_7 h_8 h_11 h_12 h_13 h_15
  revert hsz
  revert T
  refine arr156 ?_
  intro e0 e1 e2 e3 e4 e5 e6 e7 e8 e9 e10 e11 e12 e13 e14 e15 e16 e17 e18 e19 e20 e21 e22 e23 e24 e25 e26 e27 e28 e29 e30 e31 e32 e33 e34 e35 e36 e37 e38 e39 e40 e41 e42 e43 e44 e45 e46 e47 e48 e49 e50 e51 e52 e53 e54 e55 e56 e57 e58 e59 e60 e61 e62 e63 e64 e65 e66 e67 e68 e69 e70 e71 e72 e73 e74 e75 e76 e77 e78 e79 e80 e81 e82 e83 e84 e85 e86 e87 e88 e89 e90 e91 e92 e93 e94 e95 e96 e97 e98 e99 e100 e101 e102 e103 e104 e105 e106 e107 e108 e109 e110 e111 e112 e113 e114 e115 e116 e117 e118 e119 e120 e121 e122 e123 e124 e125 e126 e127 e128 e129 e130 e131 e132 e133 e134 e135 e136 e137 e138 e139 e140 e141 e142 e143 e144 e145 e146 e147 e148 e149 e150 e151 e152 e153 e154 e155 h_0 h_1 h_6 h_7 h_8 h_11 h_12 h_13 h_15
  have h_0 : e0 = .slice a0 n0 c0 := h_0
  subst h_0
  have h_1 : e1 = .slice a1 n1 c1 := h_1
  subst h_1
  have h_6 : e6 = .slice a6 n6 c6 := h_6
  subst h_6
  have h_7 : e7 = .slice a7 n7 c7 := h_7
  subst h_7
  have h_8 : e8 = .bool p2 := h_8
  subst h_8
  have h_11 : e11 = .slice a11 n11 c11 := h_11
  subst h_11
  have h_12 : e12 = .slice a12 n12 c12 := h_12
  subst h_12
  have h_13 : e13 = .bool p2 := h_13
  subst h_13
  have h_15 : e15 = .int .i64 (1 + (n11 : Int)) := h_15
  subst h_15
  refine Gw.ctl rfl (fun w => stepG_seq (x := cl (ct 19 bXE)) (y := (ct 20 bXE))) ?_
  refine Gw.segG CC RR (f := 6) (N := fun a' u' => (a'.tmps.size = 156 ∧ a'.defers = [] ∧ a'.tmps.getD 0 undef = .slice a0 n0 c0 ∧ a'.tmps.getD 1 undef = .slice a1 n1 c1 ∧ a'.tmps.getD 6 undef = .slice a6 n6 c6 ∧ a'.tmps.getD 7 undef = .slice a7 n7 c7 ∧ a'.tmps.getD 8 undef = .bool p2 ∧ a'.tmps.getD 11 undef = .slice a11 n11 c11 ∧ a'.tmps.getD 12 undef = .slice a12 n12 c12 ∧ a'.tmps.getD 13 undef = .bool p2 ∧ a'.tmps.getD 15 undef = .int .i64 (1 + (n11 : Int) + (n12 : Int))) ∧ Gx u7 u' ∧ Ints u' a11 n11 (seqI 1 n11) ∧ Ints u' a12 n12 (seqI (1 + (n11 : Int)) n12)) (Rt := fun a' u' => False) rfl (kn_nil rfl) rfl (by kernel_rfl) (fun _ _ _ _ ⟨h1, hg, r⟩ => ⟨h1, hg.re _ _, r⟩) (fun _ _ _ _ h => h) (fun t d GU => ?_) (fun A u21 h => ?_) fun _ _ _ _ h => h.elim
  · have HG : Gx u7 (World.re u20 t d) := G7.re _ _
    have O11 : OwnI (World.re u20 t d) h10 a11 n11 c11 (seqI 1 n11) := k11
    have O12 : OwnI (World.re u20 t d) R a12 n12 c12 T6 := k14
    generalize World.re u20 t d = v at GU HG O11 O12
    simp only [bXE, cl, cr, ct, co, Try.f6, Option.getD_some]
    clear ht0 ht1 hs0 hs1 hn9 hn10
    go_wp2_with fail
    refine (markIntS_any O12 (by omega) (by omega) (by omega)).mono ?_; rintro e w1 ⟨rfl, om, gm⟩
    have hlo : ∀ k, (Value.slice a12 n12 c12).ownBlock = some k → R ≤ k := fun k hk => (World.ownsRow.lt O12 k hk).1
    have r1 := HG.of_grown gm fun k hk => Nat.le_trans l9 (Nat.le_trans l10 (Nat.le_trans k13 (hlo k hk)))
    have r3 := O11.under k12 gm hlo
    have r5 := GU.of_grown gm fun k hk => Nat.le_trans lu (Nat.le_trans l9 (Nat.le_trans l10 (Nat.le_trans k13 (hlo k hk))))
    clear gm hlo
    go_wp2_with fail
    exact ⟨⟨⟨rfl, rfl, rfl, rfl, rfl, rfl, rfl, rfl, rfl, rfl, rfl⟩, r1, r3.ints, om.ints⟩, r5⟩
  clear k11 k14 G7
  obtain ⟨hA, G7, k11, k14⟩ := h
  obtain ⟨T, ds⟩ := A
  obtain ⟨hsz, hds, h_0, h_1, h_6, h_7, h_8, h_11, h_12, h_13, h_15⟩ := hA
  obtain rfl : ds = [] := hds
  try clear hds
  replace hsz : T.size = 156 := hsz
  revert h_0 h_1 h_6 h_7 h_8 h_11 h_12 h_13 h_15
  revert hsz
  revert T
  refine arr156 ?_
  intro e0 e1 e2 e3 e4 e5 e6 e7 e8 e9 e10 e11 e12 e13 e14 e15 e16 e17 e18 e19 e20 e21 e22 e23 e24 e25 e26 e27 e28 e29 e30 e31 e32 e33 e34 e35 e36 e37 e38 e39 e40 e41 e42 e43 e44 e45 e46 e47 e48 e49 e50 e51 e52 e53 e54 e55 e56 e57 e58 e59 e60 e61 e62 e63 e64 e65 e66 e67 e68 e69 e70 e71 e72 e73 e74 e75 e76 e77 e78 e79 e80 e81 e82 e83 e84 e85 e86 e87 e88 e89 e90 e91 e92 e93 e94 e95 e96 e97 e98 e99 e100 e101 e102 e103 e104 e105 e106 e107 e108 e109 e110 e111 e112 e113 e114 e115 e116 e117 e118 e119 e120 e121 e122 e123 e124 e125 e126 e127 e128 e129 e130 e131 e132 e133 e134 e135 e136 e137 e138 e139 e140 e141 e142 e143 e144 e145 e146 e147 e148 e149 e150 e151 e152 e153 e154 e155 h_0 h_1 h_6 h_7 h_8 h_11 h_12 h_13 h_15
  have h_0 : e0 = .slice a0 n0 c0 := h_0
  subst h_0
  have h_1 : e1 = .slice a1 n1 c1 := h_1
  subst h_1
  have h_6 : e6 = .slice a6 n6 c6 := h_6
  subst h_6
  have h_7 : e7 = .slice a7 n7 c7 := h_7
  subst h_7
  have h_8 : e8 = .bool p2 := h_8
  subst h_8
  have h_11 : e11 = .slice a11 n11 c11 := h_11
  subst h_11
  have h_12 : e12 = .slice a12 n12 c12 := h_12
  subst h_12
  have h_13 : e13 = .bool p2 := h_13
  subst h_13
  have h_15 : e15 = .int .i64 (1 + (n11 : Int) + (n12 : Int)) := h_15
  subst h_15
  refine Gw.ctl rfl (fun w => stepG_seq (x := cl (ct 20 bXE)) (y := (ct 21 bXE))) ?_
  refine Gw.seg CC RR (f := 6) (N := fun a' u' => (a'.tmps.size = 156 ∧ a'.defers = [] ∧ a'.tmps.getD 0 undef = .slice a0 n0 c0 ∧ a'.tmps.getD 1 undef = .slice a1 n1 c1 ∧ a'.tmps.getD 6 undef = .slice a6 n6 c6 ∧ a'.tmps.getD 7 undef = .slice a7 n7 c7 ∧ a'.tmps.getD 8 undef = .bool p2 ∧ a'.tmps.getD 11 undef = .slice a11 n11 c11 ∧ a'.tmps.getD 12 undef = .slice a12 n12 c12 ∧ a'.tmps.getD 13 undef = .bool p2 ∧ a'.tmps.getD 15 undef = .int .i64 (1 + (n11 : Int) + (n12 : Int)) ∧ a'.tmps.getD 16 undef = .int .i64 1)) (Rt := fun a' u' => False) rfl (kn_nil rfl) rfl (by kernel_rfl) (fun _ _ _ _ h => h) (fun _ _ _ _ h => h) (fun t d => ?_) (fun A u22 hg h => ?_) fun _ _ _ _ _ h => h.elim
  · generalize World.re u21 t d = v
    simp only [bXE, cl, cr, ct, co, Try.f6, Option.getD_some]
    go_wp2_with fail
    exact ⟨⟨rfl, rfl, rfl, rfl, rfl, rfl, rfl, rfl, rfl, rfl, rfl, rfl⟩, Ext.refl _ _⟩
  have hA := h
  clear h
  obtain ⟨T, ds⟩ := A
  obtain ⟨hsz, hds, h_0, h_1, h_6, h_7, h_8, h_11, h_12, h_13, h_15, h_16⟩ := hA
  obtain rfl : ds = [] := hds
  try clear hds
  replace hsz : T.size = 156 := hsz
  revert h_0 h_1 h_6 h_7 h_8 h_11 h_12 h_13 h_15 h_16
  revert hsz
  revert T
  refine arr156 ?_
  intro e0 e1 e2 e3 e4 e5 e6 e7 e8 e9 e10 e11 e12 e13 e14 e15 e16 e17 e18 e19 e20 e21 e22 e23 e24 e25 e26 e27 e28 e29 e30 e31 e32 e33 e34 e35 e36 e37 e38 e39 e40 e41 e42 e43 e44 e45 e46 e47 e48 e49 e50 e51 e52 e53 e54 e55 e56 e57 e58 e59 e60 e61 e62 e63 e64 e65 e66 e67 e68 e69 e70 e71 e72 e73 e74 e75 e76 e77 e78 e79 e80 e81 e82 e83 e84 e85 e86 e87 e88 e89 e90 e91 e92 e93 e94 e95 e96 e97 e98 e99 e100 e101 e102 e103 e104 e105 e106 e107 e108 e109 e110 e111 e112 e113 e114 e115 e116 e117 e118 e119 e120 e121 e122 e123 e124 e125 e126 e127 e128 e129 e130 e131 e132 e133 e134 e135 e136 e137 e138 e139 e140 e141 e142 e143 e144 e145 e146 e147 e148 e149 e150 e151 e152 e153 e154 e155 h_0 h_1 h_6 h_7 h_8 h_11 h_12 h_13 h_15 h_16
  have h_0 : e0 = .slice a0 n0 c0 := h_0
  subst h_0
  have h_1 : e1 = .slice a1 n1 c1 := h_1
  subst h_1
  have h_6 : e6 = .slice a6 n6 c6 := h_6
  subst h_6
  have h_7 : e7 = .slice a7 n7 c7 := h_7
  subst h_7
  have h_8 : e8 = .bool p2 := h_8
  subst h_8
  have h_11 : e11 = .slice a11 n11 c11 := h_11
  subst h_11
  have h_12 : e12 = .slice a12 n12 c12 := h_12
  subst h_12
  have h_13 : e13 = .bool p2 := h_13
  subst h_13
  have h_15 : e15 = .int .i64 (1 + (n11 : Int) + (n12 : Int)) := h_15
  subst h_15
  have h_16 : e16 = .int .i64 1 := h_16
  subst h_16
  replace G7 : Gx u7 u22 := G7.trans hg
  replace k11 : Ints u22 a11 n11 (seqI 1 n11) := hg.ints k11
  replace k14 : Ints u22 a12 n12 (seqI (1 + (n11 : Int)) n12) := hg.ints k14
  clear hg
  refine Gw.ctl rfl (fun w => stepG_seq (x := cl (ct 21 bXE)) (y := (ct 22 bXE))) ?_
  refine Gw.seg CC RR (f := 6) (N := fun a' u' => (a'.tmps.size = 156 ∧ a'.defers = [] ∧ a'.tmps.getD 0 undef = .slice a0 n0 c0 ∧ a'.tmps.getD 1 undef = .slice a1 n1 c1 ∧ a'.tmps.getD 6 undef = .slice a6 n6 c6 ∧ a'.tmps.getD 7 undef = .slice a7 n7 c7 ∧ a'.tmps.getD 8 undef = .bool p2 ∧ a'.tmps.getD 11 undef = .slice a11 n11 c11 ∧ a'.tmps.getD 12 undef = .slice a12 n12 c12 ∧ a'.tmps.getD 13 undef = .bool p2 ∧ a'.tmps.getD 15 undef = .int .i64 (1 + (n11 : Int) + (n12 : Int)) ∧ a'.tmps.getD 16 undef = .int .i64 (1 + (n11 : Int)))) (Rt := fun a' u' => False) rfl (kn_nil rfl) rfl (by kernel_rfl) (fun _ _ _ _ h => h) (fun _ _ _ _ h => h) (fun t d => ?_) (fun A u23 hg h => ?_) fun _ _ _ _ _ h => h.elim
  · have H1 : Ints (World.re u22 t d) a11 n11 (seqI 1 n11) := k11
    generalize World.re u22 t d = v at H1
    simp only [bXE, cl, cr, ct, co, Try.f6, Option.getD_some]
    go_wp2_with fail
    refine (heldIntS_any H1 (by omega) (by omega) (by omega)).mono ?_; rintro e w1 ⟨rfl, rfl⟩
    go_wp2_with fail
    exact ⟨⟨rfl, rfl, rfl, rfl, rfl, rfl, rfl, rfl, rfl, rfl, rfl, rfl⟩, Ext.refl _ _⟩
  have hA := h
  clear h
  obtain ⟨T, ds⟩ := A
  obtain ⟨hsz, hds, h_0, h_1, h_6, h_7, h_8, h_11, h_12, h_13, h_15, h_16⟩ := hA
  obtain rfl : ds = [] := hds
  try clear hds
  replace hsz : T.size = 156 := hsz
  revert h_0 h_1 h_6 h_7 h_8 h_11 h_12 h_13 h_15 h_16
  revert hsz
  revert T
  refine arr156 ?_
  intro e0 e1 e2 e3 e4 e5 e6 e7 e8 e9 e10 e11 e12 e13 e14 e15 e16 e17 e18 e19 e20 e21 e22 e23 e24 e25 e26 e27 e28 e29 e30 e31 e32 e33 e34 e35 e36 e37 e38 e39 e40 e41 e42 e43 e44 e45 e46 e47 e48 e49 e50 e51 e52 e53 e54 e55 e56 e57 e58 e59 e60 e61 e62 e63 e64 e65 e66 e67 e68 e69 e70 e71 e72 e73 e74 e75 e76 e77 e78 e79 e80 e81 e82 e83 e84 e85 e86 e87 e88 e89 e90 e91 e92 e93 e94 e95 e96 e97 e98 e99 e100 e101 e102 e103 e104 e105 e106 e107 e108 e109 e110 e111 e112 e113 e114 e115 e116 e117 e118 e119 e120 e121 e122 e123 e124 e125 e126 e127 e128 e129 e130 e131 e132 e133 e134 e135 e136 e137 e138 e139 e140 e141 e142 e143 e144 e145 e146 e147 e148 e149 e150 e151 e152 e153 e154 e155 h_0 h_1 h_6 h_7 h_8 h_11 h_12 h_13 h_15 h_16
  have h_0 : e0 = .slice a0 n0 c0 := h_0
  subst h_0
  have h_1 : e1 = .slice a1 n1 c1 := h_1
  subst h_1
  have h_6 : e6 = .slice a6 n6 c6 := h_6
  subst h_6
  have h_7 : e7 = .slice a7 n7 c7 := h_7
  subst h_7
  have h_8 : e8 = .bool p2 := h_8
  subst h_8
  have h_11 : e11 = .slice a11 n11 c11 := h_11
  subst h_11
  have h_12 : e12 = .slice a12 n12 c12 := h_12
  subst h_12
  have h_13 : e13 = .bool p2 := h_13
  subst h_13
  have h_15 : e15 = .int .i64 (1 + (n11 : Int) + (n12 : Int)) := h_15
  subst h_15
  have h_16 : e16 = .int .i64 (1 + (n11 : Int)) := h_16
  subst h_16
  replace G7 : Gx u7 u23 := G7.trans hg
  replace k11 : Ints u23 a11 n11 (seqI 1 n11) := hg.ints k11
  replace k14 : Ints u23 a12 n12 (seqI (1 + (n11 : Int)) n12) := hg.ints k14
  clear hg
  refine Gw.ctl rfl (fun w => stepG_seq (x := cl (ct 22 bXE)) (y := (ct 23 bXE))) ?_
  refine Gw.seg CC RR (f := 6) (N := fun a' u' => (a'.tmps.size = 156 ∧ a'.defers = [] ∧ a'.tmps.getD 0 undef = .slice a0 n0 c0 ∧ a'.tmps.getD 1 undef = .slice a1 n1 c1 ∧ a'.tmps.getD 6 undef = .slice a6 n6 c6 ∧ a'.tmps.getD 7 undef = .slice a7 n7 c7 ∧ a'.tmps.getD 8 undef = .bool p2 ∧ a'.tmps.getD 11 undef = .slice a11 n11 c11 ∧ a'.tmps.getD 12 undef = .slice a12 n12 c12 ∧ a'.tmps.getD 13 undef = .bool p2 ∧ a'.tmps.getD 15 undef = .int .i64 (1 + (n11 : Int) + (n12 : Int)) ∧ a'.tmps.getD 16 undef = .int .i64 (1 + (n11 : Int)))) (Rt := fun a' u' => False) rfl (kn_nil rfl) rfl (by kernel_rfl) (fun _ _ _ _ h => h) (fun _ _ _ _ h => h) (fun t d => ?_) (fun A u24 hg h => ?_) fun _ _ _ _ _ h => h.elim
  · generalize World.re u23 t d = v
    simp only [bXE, cl, cr, ct, co, Try.f6, Option.getD_some]
    have hq1 : ¬ ((1 + (n11 : Int)) < 0) := by omega
    go_wp2_with fail
    exact ⟨⟨rfl, rfl, rfl, rfl, rfl, rfl, rfl, rfl, rfl, rfl, rfl, rfl⟩, Ext.refl _ _⟩
  have hA := h
  clear h
  obtain ⟨T, ds⟩ := A
  obtain ⟨hsz, hds, h_0, h_1, h_6, h_7, h_8, h_11, h_12, h_13, h_15, h_16⟩ := hA
  obtain rfl : ds = [] := hds
  try clear hds
  replace hsz : T.size = 156 := hsz
  revert h_0 h_1 h_6 h_7 h_8 h_11 h_12 h_13 h_15 h_16
  revert hsz
  revert T
  refine arr156 ?_
  intro e0 e1 e2 e3 e4 e5 e6 e7 e8 e9 e10 e11 e12 e13 e14 e15 e16 e17 e18 e19 e20 e21 e22 e23 e24 e25 e26 e27 e28 e29 e30 e31 e32 e33 e34 e35 e36 e37 e38 e39 e40 e41 e42 e43 e44 e45 e46 e47 e48 e49 e50 e51 e52 e53 e54 e55 e56 e57 e58 e59 e60 e61 e62 e63 e64 e65 e66 e67 e68 e69 e70 e71 e72 e73 e74 e75 e76 e77 e78 e79 e80 e81 e82 e83 e84 e85 e86 e87 e88 e89 e90 e91 e92 e93 e94 e95 e96 e97 e98 e99 e100 e101 e102 e103 e104 e105 e106 e107 e108 e109 e110 e111 e112 e113 e114 e115 e116 e117 e118 e119 e120 e121 e122 e123 e124 e125 e126 e127 e128 e129 e130 e131 e132 e133 e134 e135 e136 e137 e138 e139 e140 e141 e142 e143 e144 e145 e146 e147 e148 e149 e150 e151 e152 e153 e154 e155 h_0 h_1 h_6 h_7 h_8 h_11 h_12 h_13 h_15 h_16
  have h_0 : e0 = .slice a0 n0 c0 := h_0
  subst h_0
  have h_1 : e1 = .slice a1 n1 c1 := h_1
  subst h_1
  have h_6 : e6 = .slice a6 n6 c6 := h_6
  subst h_6
  have h_7 : e7 = .slice a7 n7 c7 := h_7
  subst h_7
  have h_8 : e8 = .bool p2 := h_8
  subst h_8
  have h_11 : e11 = .slice a11 n11 c11 := h_11
  subst h_11
  have h_12 : e12 = .slice a12 n12 c12 := h_12
  subst h_12
  have h_13 : e13 = .bool p2 := h_13
  subst h_13
  have h_15 : e15 = .int .i64 (1 + (n11 : Int) + (n12 : Int)) := h_15
  subst h_15
  have h_16 : e16 = .int .i64 (1 + (n11 : Int)) := h_16
  subst h_16
  replace G7 : Gx u7 u24 := G7.trans hg
  replace k11 : Ints u24 a11 n11 (seqI 1 n11) := hg.ints k11
  replace k14 : Ints u24 a12 n12 (seqI (1 + (n11 : Int)) n12) := hg.ints k14
  clear hg
  refine Gw.ctl rfl (fun w => stepG_seq (x := cl (ct 23 bXE)) (y := (ct 24 bXE))) ?_
  refine Gw.seg CC RR (f := 6) (N := fun a' u' => (a'.tmps.size = 156 ∧ a'.defers = [] ∧ a'.tmps.getD 0 undef = .slice a0 n0 c0 ∧ a'.tmps.getD 1 undef = .slice a1 n1 c1 ∧ a'.tmps.getD 6 undef = .slice a6 n6 c6 ∧ a'.tmps.getD 7 undef = .slice a7 n7 c7 ∧ a'.tmps.getD 8 undef = .bool p2 ∧ a'.tmps.getD 11 undef = .slice a11 n11 c11 ∧ a'.tmps.getD 12 undef = .slice a12 n12 c12 ∧ a'.tmps.getD 13 undef = .bool p2 ∧ a'.tmps.getD 15 undef = .int .i64 (1 + (n11 : Int) + (n12 : Int)) ∧ a'.tmps.getD 16 undef = .int .i64 (1 + (n11 : Int) + (n12 : Int)))) (Rt := fun a' u' => False) rfl (kn_nil rfl) rfl (by kernel_rfl) (fun _ _ _ _ h => h) (fun _ _ _ _ h => h) (fun t d => ?_) (fun A u25 hg h => ?_) fun _ _ _ _ _ h => h.elim
  · have H2 : Ints (World.re u24 t d) a12 n12 (seqI (1 + (n11 : Int)) n12) := k14
    generalize World.re u24 t d = v at H2
    simp only [bXE, cl, cr, ct, co, Try.f6, Option.getD_some]
    go_wp2_with fail
    refine (heldIntS_any H2 (by omega) (by omega) (by omega)).mono ?_; rintro e w1 ⟨rfl, rfl⟩
    go_wp2_with fail
    exact ⟨⟨rfl, rfl, rfl, rfl, rfl, rfl, rfl, rfl, rfl, rfl, rfl, rfl⟩, Ext.refl _ _⟩
  have hA := h
  clear h
  obtain ⟨T, ds⟩ := A
  obtain ⟨hsz, hds, h_0, h_1, h_6, h_7, h_8, h_11, h_12, h_13, h_15, h_16⟩ := hA
  obtain rfl : ds = [] := hds
  try clear hds
  replace hsz : T.size = 156 := hsz
  revert h_0 h_1 h_6 h_7 h_8 h_11 h_12 h_13 h_15 h_16
  revert hsz
  revert T
  refine arr156 ?_
  intro e0 e1 e2 e3 e4 e5 e6 e7 e8 e9 e10 e11 e12 e13 e14 e15 e16 e17 e18 e19 e20 e21 e22 e23 e24 e25 e26 e27 e28 e29 e30 e31 e32 e33 e34 e35 e36 e37 e38 e39 e40 e41 e42 e43 e44 e45 e46 e47 e48 e49 e50 e51 e52 e53 e54 e55 e56 e57 e58 e59 e60 e61 e62 e63 e64 e65 e66 e67 e68 e69 e70 e71 e72 e73 e74 e75 e76 e77 e78 e79 e80 e81 e82 e83 e84 e85 e86 e87 e88 e89 e90 e91 e92 e93 e94 e95 e96 e97 e98 e99 e100 e101 e102 e103 e104 e105 e106 e107 e108 e109 e110 e111 e112 e113 e114 e115 e116 e117 e118 e119 e120 e121 e122 e123 e124 e125 e126 e127 e128 e129 e130 e131 e132 e133 e134 e135 e136 e137 e138 e139 e140 e141 e142 e143 e144 e145 e146 e147 e148 e149 e150 e151 e152 e153 e154 e155 h_0 h_1 h_6 h_7 h_8 h_11 h_12 h_13 h_15 h_16
  have h_0 : e0 = .slice a0 n0 c0 := h_0
  subst h_0
  have h_1 : e1 = .slice a1 n1 c1 := h_1
  subst h_1
  have h_6 : e6 = .slice a6 n6 c6 := h_6
  subst h_6
  have h_7 : e7 = .slice a7 n7 c7 := h_7
  subst h_7
  have h_8 : e8 = .bool p2 := h_8
  subst h_8
  have h_11 : e11 = .slice a11 n11 c11 := h_11
  subst h_11
  have h_12 : e12 = .slice a12 n12 c12 := h_12
  subst h_12
  have h_13 : e13 = .bool p2 := h_13
  subst h_13
  have h_15 : e15 = .int .i64 (1 + (n11 : Int) + (n12 : Int)) := h_15
  subst h_15
  have h_16 : e16 = .int .i64 (1 + (n11 : Int) + (n12 : Int)) := h_16
  subst h_16
  replace G7 : Gx u7 u25 := G7.trans hg
  replace k11 : Ints u25 a11 n11 (seqI 1 n11) := hg.ints k11
  replace k14 : Ints u25 a12 n12 (seqI (1 + (n11 : Int)) n12) := hg.ints k14
  clear hg
  refine Gw.ctl rfl (fun w => stepG_seq (x := cl (ct 24 bXE)) (y := (ct 25 bXE))) ?_
  refine Gw.seg CC RR (f := 6) (N := fun a' u' => (a'.tmps.size = 156 ∧ a'.defers = [] ∧ a'.tmps.getD 0 undef = .slice a0 n0 c0 ∧ a'.tmps.getD 1 undef = .slice a1 n1 c1 ∧ a'.tmps.getD 6 undef = .slice a6 n6 c6 ∧ a'.tmps.getD 7 undef = .slice a7 n7 c7 ∧ a'.tmps.getD 8 undef = .bool p2 ∧ a'.tmps.getD 11 undef = .slice a11 n11 c11 ∧ a'.tmps.getD 12 undef = .slice a12 n12 c12 ∧ a'.tmps.getD 13 undef = .bool p2 ∧ a'.tmps.getD 15 undef = .int .i64 (1 + (n11 : Int) + (n12 : Int)) ∧ a'.tmps.getD 16 undef = .int .i64 (1 + (n11 : Int) + (n12 : Int)))) (Rt := fun a' u' => False) rfl (kn_nil rfl) rfl (by kernel_rfl) (fun _ _ _ _ h => h) (fun _ _ _ _ h => h) (fun t d => ?_) (fun A u26 hg h => ?_) fun _ _ _ _ _ h => h.elim
  · generalize World.re u25 t d = v
    simp only [bXE, cl, cr, ct, co, Try.f6, Option.getD_some]
    have hq1 : ¬ ((1 + (n11 : Int) + (n12 : Int)) < 0) := by omega
    go_wp2_with fail
    exact ⟨⟨rfl, rfl, rfl, rfl, rfl, rfl, rfl, rfl, rfl, rfl, rfl, rfl⟩, Ext.refl _ _⟩
  have hA := h
  clear h
  obtain ⟨T, ds⟩ := A
  obtain ⟨hsz, hds, h_0, h_1, h_6, h_7, h_8, h_11, h_12, h_13, h_15, h_16⟩ := hA
  obtain rfl : ds = [] := hds
  try clear hds
  replace hsz : T.size = 156 := hsz
  revert h_0 h_1 h_6 h_7 h_8 h_11 h_12 h_13 h_15 h_16
  revert hsz
  revert T
  refine arr156 ?_
  intro e0 e1 e2 e3 e4 e5 e6 e7 e8 e9 e10 e11 e12 e13 e14 e15 e16 e17 e18 e19 e20 e21 e22 e23 e24 e25 e26 e27 e28 e29 e30 e31 e32 e33 e34 e35 e36 e37 e38 e39 e40 e41 e42 e43 e44 e45 e46 e47 e48 e49 e50 e51 e52 e53 e54 e55 e56 e57 e58 e59 e60 e61 e62 e63 e64 e65 e66 e67 e68 e69 e70 e71 e72 e73 e74 e75 e76 e77 e78 e79 e80 e81 e82 e83 e84 e85 e86 e87 e88 e89 e90 e91 e92 e93 e94 e95 e96 e97 e98 e99 e100 e101 e102 e103 e104 e105 e106 e107 e108 e109 e110 e111 e112 e113 e114 e115 e116 e117 e118 e119 e120 e121 e122 e123 e124 e125 e126 e127 e128 e129 e130 e131 e132 e133 e134 e135 e136 e137 e138 e139 e140 e141 e142 e143 e144 e145 e146 e147 e148 e149 e150 e151 e152 e153 e154 e155 h_0 h_1 h_6 h_7 h_8 h_11 h_12 h_13 h_15 h_16
  have h_0 : e0 = .slice a0 n0 c0 := h_0
  subst h_0
  have h_1 : e1 = .slice a1 n1 c1 := h_1
  subst h_1
  have h_6 : e6 = .slice a6 n6 c6 := h_6
  subst h_6
  have h_7 : e7 = .slice a7 n7 c7 := h_7
  subst h_7
  have h_8 : e8 = .bool p2 := h_8
  subst h_8
  have h_11 : e11 = .slice a11 n11 c11 := h_11
  subst h_11
  have h_12 : e12 = .slice a12 n12 c12 := h_12
  subst h_12
  have h_13 : e13 = .bool p2 := h_13
  subst h_13
  have h_15 : e15 = .int .i64 (1 + (n11 : Int) + (n12 : Int)) := h_15
  subst h_15
  have h_16 : e16 = .int .i64 (1 + (n11 : Int) + (n12 : Int)) := h_16
  subst h_16
  replace G7 : Gx u7 u26 := G7.trans hg
  replace k11 : Ints u26 a11 n11 (seqI 1 n11) := hg.ints k11
  replace k14 : Ints u26 a12 n12 (seqI (1 + (n11 : Int)) n12) := hg.ints k14
  clear hg
  refine Gw.ctl rfl (fun w => stepG_seq (x := cl (ct 25 bXE)) (y := (ct 26 bXE))) ?_
  refine Gw.seg CC RR (f := 6) (N := fun a' u' => (a'.tmps.size = 156 ∧ a'.defers = [] ∧ a'.tmps.getD 0 undef = .slice a0 n0 c0 ∧ a'.tmps.getD 1 undef = .slice a1 n1 c1 ∧ a'.tmps.getD 6 undef = .slice a6 n6 c6 ∧ a'.tmps.getD 7 undef = .slice a7 n7 c7 ∧ a'.tmps.getD 8 undef = .bool p2 ∧ a'.tmps.getD 11 undef = .slice a11 n11 c11 ∧ a'.tmps.getD 12 undef = .slice a12 n12 c12 ∧ a'.tmps.getD 13 undef = .bool p2 ∧ a'.tmps.getD 15 undef = .int .i64 (1 + (n11 : Int) + (n12 : Int)))) (Rt := fun a' u' => False) rfl (kn_nil rfl) rfl (by kernel_rfl) (fun _ _ _ _ h => h) (fun _ _ _ _ h => h) (fun t d => ?_) (fun A u27 hg h => ?_) fun _ _ _ _ _ h => h.elim
  · generalize World.re u26 t d = v
    simp only [bXE, cl, cr, ct, co, Try.f6, Option.getD_some]
    go_wp2_with fail
    exact ⟨⟨rfl, rfl, rfl, rfl, rfl, rfl, rfl, rfl, rfl, rfl, rfl⟩, Ext.refl _ _⟩
  have hA := h
  clear h
  obtain ⟨T, ds⟩ := A
  obtain ⟨hsz, hds, h_0, h_1, h_6, h_7, h_8, h_11, h_12, h_13, h_15⟩ := hA
  obtain rfl : ds = [] := hds
  try clear hds
  replace hsz : T.size = 156 := hsz
  revert h_0 h_1 h_6 h_7 h_8 h_11 h_12 h_13 h_15
  revert hsz
  revert T
  refine arr156 ?_
  intro e0 e1 e2 e3 e4 e5 e6 e7 e8 e9 e10 e11 e12 e13 e14 e15 e16 e17 e18 e19 e20 e21 e22 e23 e24 e25 e26 e27 e28 e29 e30 e31 e32 e33 e34 e35 e36 e37 e38 e39 e40 e41 e42 e43 e44 e45 e46 e47 e48 e49 e50 e51 e52 e53 e54 e55 e56 e57 e58 e59 e60 e61 e62 e63 e64 e65 e66 e67 e68 e69 e70 e71 e72 e73 e74 e75 e76 e77 e78 e79 e80 e81 e82 e83 e84 e85 e86 e87 e88 e89 e90 e91 e92 e93 e94 e95 e96 e97 e98 e99 e100 e101 e102 e103 e104 e105 e106 e107 e108 e109 e110 e111 e112 e113 e114 e115 e116 e117 e118 e119 e120 e121 e122 e123 e124 e125 e126 e127 e128 e129 e130 e131 e132 e133 e134 e135 e136 e137 e138 e139 e140 e141 e142 e143 e144 e145 e146 e147 e148 e149 e150 e151 e152 e153 e154 e155 h_0 h_1 h_6 h_7 h_8 h_11 h_12 h_13 h_15
  have h_0 : e0 = .slice a0 n0 c0 := h_0
  subst h_0
  have h_1 : e1 = .slice a1 n1 c1 := h_1
  subst h_1
  have h_6 : e6 = .slice a6 n6 c6 := h_6
  subst h_6
  have h_7 : e7 = .slice a7 n7 c7 := h_7
  subst h_7
  have h_8 : e8 = .bool p2 := h_8
  subst h_8
  have h_11 : e11 = .slice a11 n11 c11 := h_11
  subst h_11
  have h_12 : e12 = .slice a12 n12 c12 := h_12
  subst h_12
  have h_13 : e13 = .bool p2 := h_13
  subst h_13
  have h_15 : e15 = .int .i64 (1 + (n11 : Int) + (n12 : Int)) := h_15
  subst h_15
  replace G7 : Gx u7 u27 := G7.trans hg
  replace k11 : Ints u27 a11 n11 (seqI 1 n11) := hg.ints k11
  replace k14 : Ints u27 a12 n12 (seqI (1 + (n11 : Int)) n12) := hg.ints k14
  clear hg
  clear hs0 hs1 hn9 hn10
  refine Gw.ctl rfl (fun w => stepG_seq (x := .region 35 rXE35 false) (y := (ct 27 bXE))) ?_
  refine Gw.ctl rfl (fun w => stepG_region) ?_
  rw [show List.range rXE35.size = [0, 1, 2, 3, 4, 5, 6, 7, 8, 9, 10, 11] from rfl]
  refine Gw.mv (oo := rXE35.getD 0 default) rfl (.inl rfl) rfl (bkn _) ?_
  refine (?_ : ∀ A : Act, (A.tmps.size = 156 ∧ A.defers = [] ∧ A.tmps.getD 0 undef = .slice a0 n0 c0 ∧ A.tmps.getD 1 undef = .slice a1 n1 c1 ∧ A.tmps.getD 6 undef = .slice a6 n6 c6 ∧ A.tmps.getD 7 undef = .slice a7 n7 c7 ∧ A.tmps.getD 8 undef = .bool p2 ∧ A.tmps.getD 11 undef = .slice a11 n11 c11 ∧ A.tmps.getD 12 undef = .slice a12 n12 c12 ∧ A.tmps.getD 13 undef = .bool p2 ∧ A.tmps.getD 15 undef = .int .i64 (1 + (n11 : Int) + (n12 : Int)) ∧ A.tmps.getD 120 undef = .slice a0 n0 c0) → Gw _ _ _ _ _ _ (G ((base 6).at A _) _)) _ ⟨rfl, rfl, rfl, rfl, rfl, rfl, rfl, rfl, rfl, rfl, rfl, rfl⟩
  intro A hA
  obtain ⟨T, ds⟩ := A
  obtain ⟨hsz, hds, h_0, h_1, h_6, h_7, h_8, h_11, h_12, h_13, h_15, h_120⟩ := hA
  obtain rfl : ds = [] := hds
  try clear hds
  replace hsz : T.size = 156 := hsz
  revert h_0 h_1 h_6 h_7 h_8 h_11 h_12 h_13 h_15 h_120
  revert hsz
  revert T
  refine arr156 ?_
  intro e0 e1 e2 e3 e4 e5 e6 e7 e8 e9 e10 e11 e12 e13 e14 e15 e16 e17 e18 e19 e20 e21 e22 e23 e24 e25 e26 e27 e28 e29 e30 e31 e32 e33 e34 e35 e36 e37 e38 e39 e40 e41 e42 e43 e44 e45 e46 e47 e48 e49 e50 e51 e52 e53 e54 e55 e56 e57 e58 e59 e60 e61 e62 e63 e64 e65 e66 e67 e68 e69 e70 e71 e72 e73 e74 e75 e76 e77 e78 e79 e80 e81 e82 e83 e84 e85 e86 e87 e88 e89 e90 e91 e92 e93 e94 e95 e96 e97 e98 e99 e100 e101 e102 e103 e104 e105 e106 e107 e108 e109 e110 e111 e112 e113 e114 e115 e116 e117 e118 e119 e120 e121 e122 e123 e124 e125 e126 e127 e128 e129 e130 e131 e132 e133 e134 e135 e136 e137 e138 e139 e140 e141 e142 e143 e144 e145 e146 e147 e148 e149 e150 e151 e152 e153 e154 e155 h_0 h_1 h_6 h_7 h_8 h_11 h_12 h_13 h_15 h_120
  have h_0 : e0 = .slice a0 n0 c0 := h_0
  subst h_0
  have h_1 : e1 = .slice a1 n1 c1 := h_1
  subst h_1
  have h_6 : e6 = .slice a6 n6 c6 := h_6
  subst h_6
  have h_7 : e7 = .slice a7 n7 c7 := h_7
  subst h_7
  have h_8 : e8 = .bool p2 := h_8
  subst h_8
  have h_11 : e11 = .slice a11 n11 c11 := h_11
  subst h_11
  have h_12 : e12 = .slice a12 n12 c12 := h_12
  subst h_12
  have h_13 : e13 = .bool p2 := h_13
  subst h_13
  have h_15 : e15 = .int .i64 (1 + (n11 : Int) + (n12 : Int)) := h_15
  subst h_15
  have h_120 : e120 = .slice a0 n0 c0 := h_120
  subst h_120
  refine Gw.scall CC RR (oo := rXE35.getD 1 default) (g := 19) (args := #[.tmp 120]) rfl rfl (bkn _) rfl rfl (vals := #[.slice a0 n0 c0]) (by simp [Act.eval]) (kna_nil rfl) (Post := fun v u' => ∃ a n c, v = .slice a n c ∧ Fam u' a n f0) (fun _ _ _ _ h => h) (fun t d => ?_) fun v u28 hg ⟨a20, n20, c20, hv, x20⟩ => ?_
  · have H : Fam (World.re u27 t d) a0 n0 f0 := G7.fam h0
    exact (toIntSS_any H ht0).mono fun e w1 ⟨b1, k1, d1, he, o1, e1⟩ => ⟨_, he, ⟨b1, k1, d1, rfl, o1.fam⟩, e1⟩
  subst hv
  refine (?_ : ∀ A : Act, (A.tmps.size = 156 ∧ A.defers = [] ∧ A.tmps.getD 0 undef = .slice a0 n0 c0 ∧ A.tmps.getD 1 undef = .slice a1 n1 c1 ∧ A.tmps.getD 6 undef = .slice a6 n6 c6 ∧ A.tmps.getD 7 undef = .slice a7 n7 c7 ∧ A.tmps.getD 8 undef = .bool p2 ∧ A.tmps.getD 11 undef = .slice a11 n11 c11 ∧ A.tmps.getD 12 undef = .slice a12 n12 c12 ∧ A.tmps.getD 13 undef = .bool p2 ∧ A.tmps.getD 15 undef = .int .i64 (1 + (n11 : Int) + (n12 : Int)) ∧ A.tmps.getD 121 undef = .slice a20 n20 c20) → Gw _ _ _ _ _ _ (G ((base 6).at A _) _)) _ ⟨rfl, rfl, rfl, rfl, rfl, rfl, rfl, rfl, rfl, rfl, rfl, rfl⟩
  intro A hA
  obtain ⟨T, ds⟩ := A
  obtain ⟨hsz, hds, h_0, h_1, h_6, h_7, h_8, h_11, h_12, h_13, h_15, h_121⟩ := hA
  obtain rfl : ds = [] := hds
  try clear hds
  replace hsz : T.size = 156 := hsz
  revert h_0 h_1 h_6 h_7 h_8 h_11 h_12 h_13 h_15 h_121
  revert hsz
  revert T
  refine arr156 ?_
  intro e0 e1 e2 e3 e4 e5 e6 e7 e8 e9 e10 e11 e12 e13 e14 e15 e16 e17 e18 e19 e20 e21 e22 e23 e24 e25 e26 e27 e28 e29 e30 e31 e32 e33 e34 e35 e36 e37 e38 e39 e40 e41 e42 e43 e44 e45 e46 e47 e48 e49 e50 e51 e52 e53 e54 e55 e56 e57 e58 e59 e60 e61 e62 e63 e64 e65 e66 e67 e68 e69 e70 e71 e72 e73 e74 e75 e76 e77 e78 e79 e80 e81 e82 e83 e84 e85 e86 e87 e88 e89 e90 e91 e92 e93 e94 e95 e96 e97 e98 e99 e100 e101 e102 e103 e104 e105 e106 e107 e108 e109 e110 e111 e112 e113 e114 e115 e116 e117 e118 e119 e120 e121 e122 e123 e124 e125 e126 e127 e128 e129 e130 e131 e132 e133 e134 e135 e136 e137 e138 e139 e140 e141 e142 e143 e144 e145 e146 e147 e148 e149 e150 e151 e152 e153 e154 e155 h_0 h_1 h_6 h_7 h_8 h_11 h_12 h_13 h_15 h_121
  have h_0 : e0 = .slice a0 n0 c0 := h_0
  subst h_0
  have h_1 : e1 = .slice a1 n1 c1 := h_1
  subst h_1
  have h_6 : e6 = .slice a6 n6 c6 := h_6
  subst h_6
  have h_7 : e7 = .slice a7 n7 c7 := h_7
  subst h_7
  have h_8 : e8 = .bool p2 := h_8
  subst h_8
  have h_11 : e11 = .slice a11 n11 c11 := h_11
  subst h_11
  have h_12 : e12 = .slice a12 n12 c12 := h_12
  subst h_12
  have h_13 : e13 = .bool p2 := h_13
  subst h_13
  have h_15 : e15 = .int .i64 (1 + (n11 : Int) + (n12 : Int)) := h_15
  subst h_15
  have h_121 : e121 = .slice a20 n20 c20 := h_121
  subst h_121
  replace G7 : Gx u7 u28 := G7.trans hg
  replace k11 : Ints u28 a11 n11 (seqI 1 n11) := hg.ints k11
  replace k14 : Ints u28 a12 n12 (seqI (1 + (n11 : Int)) n12) := hg.ints k14
  clear hg
  refine Gw.mv (oo := rXE35.getD 2 default) rfl (.inl rfl) rfl (bkn _) ?_
  refine (?_ : ∀ A : Act, (A.tmps.size = 156 ∧ A.defers = [] ∧ A.tmps.getD 0 undef = .slice a0 n0 c0 ∧ A.tmps.getD 1 undef = .slice a1 n1 c1 ∧ A.tmps.getD 6 undef = .slice a6 n6 c6 ∧ A.tmps.getD 7 undef = .slice a7 n7 c7 ∧ A.tmps.getD 8 undef = .bool p2 ∧ A.tmps.getD 11 undef = .slice a11 n11 c11 ∧ A.tmps.getD 12 undef = .slice a12 n12 c12 ∧ A.tmps.getD 13 undef = .bool p2 ∧ A.tmps.getD 15 undef = .int .i64 (1 + (n11 : Int) + (n12 : Int)) ∧ A.tmps.getD 121 undef = .slice a20 n20 c20 ∧ A.tmps.getD 122 undef = .slice a1 n1 c1) → Gw _ _ _ _ _ _ (G ((base 6).at A _) _)) _ ⟨rfl, rfl, rfl, rfl, rfl, rfl, rfl, rfl, rfl, rfl, rfl, rfl, rfl⟩
  intro A hA
  obtain ⟨T, ds⟩ := A
  obtain ⟨hsz, hds, h_0, h_1, h_6, h_7, h_8, h_11, h_12, h_13, h_15, h_121, h_122⟩ := hA
  obtain rfl : ds = [] := hds
  try clear hds
  replace hsz : T.size = 156 := hsz
  revert h_0 h_1 h_6 h_7 h_8 h_11 h_12 h_13 h_15 h_121 h_122
  revert hsz
  revert T
  refine arr156 ?_
  intro e0 e1 e2 e3 e4 e5 e6 e7 e8 e9 e10 e11 e12 e13 e14 e15 e16 e17 e18 e19 e20 e21 e22 e23 e24 e25 e26 e27 e28 e29 e30 e31 e32 e33 e34 e35 e36 e37 e38 e39 e40 e41 e42 e43 e44 e45 e46 e47 e48 e49 e50 e51 e52 e53 e54 e55 e56 e57 e58 e59 e60 e61 e62 e63 e64 e65 e66 e67 e68 e69 e70 e71 e72 e73 e74 e75 e76 e77 e78 e79 e80 e81 e82 e83 e84 e85 e86 e87 e88 e89 e90 e91 e92 e93 e94 e95 e96 e97 e98 e99 e100 e101 e102 e103 e104 e105 e106 e107 e108 e109 e110 e111 e112 e113 e114 e115 e116 e117 e118 e119 e120 e121 e122 e123 e124 e125 e126 e127 e128 e129 e130 e131 e132 e133 e134 e135 e136 e137 e138 e139 e140 e141 e142 e143 e144 e145 e146 e147 e148 e149 e150 e151 e152 e153 e154 e155 h_0 h_1 h_6 h_7 h_8 h_11 h_12 h_13 h_15 h_121 h_122
  have h_0 : e0 = .slice a0 n0 c0 := h_0
  subst h_0
  have h_1 : e1 = .slice a1 n1 c1 := h_1
  subst h_1
  have h_6 : e6 = .slice a6 n6 c6 := h_6
  subst h_6
  have h_7 : e7 = .slice a7 n7 c7 := h_7
  subst h_7
  have h_8 : e8 = .bool p2 := h_8
  subst h_8
  have h_11 : e11 = .slice a11 n11 c11 := h_11
  subst h_11
  have h_12 : e12 = .slice a12 n12 c12 := h_12
  subst h_12
  have h_13 : e13 = .bool p2 := h_13
  subst h_13
  have h_15 : e15 = .int .i64 (1 + (n11 : Int) + (n12 : Int)) := h_15
  subst h_15
  have h_121 : e121 = .slice a20 n20 c20 := h_121
  subst h_121
  have h_122 : e122 = .slice a1 n1 c1 := h_122
  subst h_122
  refine Gw.scall CC RR (oo := rXE35.getD 3 default) (g := 19) (args := #[.tmp 122]) rfl rfl (bkn _) rfl rfl (vals := #[.slice a1 n1 c1]) (by simp [Act.eval]) (kna_nil rfl) (Post := fun v u' => ∃ a n c, v = .slice a n c ∧ Fam u' a n f1) (fun _ _ _ _ h => h) (fun t d => ?_) fun v u29 hg ⟨a21, n21, c21, hv, x21⟩ => ?_
  · have H : Fam (World.re u28 t d) a1 n1 f1 := G7.fam h1
    exact (toIntSS_any H ht1).mono fun e w1 ⟨b1, k1, d1, he, o1, e1⟩ => ⟨_, he, ⟨b1, k1, d1, rfl, o1.fam⟩, e1⟩
  subst hv
  replace x20 : Fam u29 a20 n20 f0 := hg.fam x20
  refine (?_ : ∀ A : Act, (A.tmps.size = 156 ∧ A.defers = [] ∧ A.tmps.getD 0 undef = .slice a0 n0 c0 ∧ A.tmps.getD 1 undef = .slice a1 n1 c1 ∧ A.tmps.getD 6 undef = .slice a6 n6 c6 ∧ A.tmps.getD 7 undef = .slice a7 n7 c7 ∧ A.tmps.getD 8 undef = .bool p2 ∧ A.tmps.getD 11 undef = .slice a11 n11 c11 ∧ A.tmps.getD 12 undef = .slice a12 n12 c12 ∧ A.tmps.getD 13 undef = .bool p2 ∧ A.tmps.getD 15 undef = .int .i64 (1 + (n11 : Int) + (n12 : Int)) ∧ A.tmps.getD 121 undef = .slice a20 n20 c20 ∧ A.tmps.getD 123 undef = .slice a21 n21 c21) → Gw _ _ _ _ _ _ (G ((base 6).at A _) _)) _ ⟨rfl, rfl, rfl, rfl, rfl, rfl, rfl, rfl, rfl, rfl, rfl, rfl, rfl⟩
  intro A hA
  obtain ⟨T, ds⟩ := A
  obtain ⟨hsz, hds, h_0, h_1, h_6, h_7, h_8, h_11, h_12, h_13, h_15, h_121, h_123⟩ := hA
  obtain rfl : ds = [] := hds
  try clear hds
  replace hsz : T.size = 156 := hsz
  revert h_0 h_1 h_6 h_7 h_8 h_11 h_12 h_13 h_15 h_121 h_123
  revert hsz
  revert T
  refine arr156 ?_
  intro e0 e1 e2 e3 e4 e5 e6 e7 e8 e9 e10 e11 e12 e13 e14 e15 e16 e17 e18 e19 e20 e21 e22 e23 e24 e25 e26 e27 e28 e29 e30 e31 e32 e33 e34 e35 e36 e37 e38 e39 e40 e41 e42 e43 e44 e45 e46 e47 e48 e49 e50 e51 e52 e53 e54 e55 e56 e57 e58 e59 e60 e61 e62 e63 e64 e65 e66 e67 e68 e69 e70 e71 e72 e73 e74 e75 e76 e77 e78 e79 e80 e81 e82 e83 e84 e85 e86 e87 e88 e89 e90 e91 e92 e93 e94 e95 e96 e97 e98 e99 e100 e101 e102 e103 e104 e105 e106 e107 e108 e109 e110 e111 e112 e113 e114 e115 e116 e117 e118 e119 e120 e121 e122 e123 e124 e125 e126 e127 e128 e129 e130 e131 e132 e133 e134 e135 e136 e137 e138 e139 e140 e141 e142 e143 e144 e145 e146 e147 e148 e149 e150 e151 e152 e153 e154 e155 h_0 h_1 h_6 h_7 h_8 h_11 h_12 h_13 h_15 h_121 h_123
  have h_0 : e0 = .slice a0 n0 c0 := h_0
  subst h_0
  have h_1 : e1 = .slice a1 n1 c1 := h_1
  subst h_1
  have h_6 : e6 = .slice a6 n6 c6 := h_6
  subst h_6
  have h_7 : e7 = .slice a7 n7 c7 := h_7
  subst h_7
  have h_8 : e8 = .bool p2 := h_8
  subst h_8
  have h_11 : e11 = .slice a11 n11 c11 := h_11
  subst h_11
  have h_12 : e12 = .slice a12 n12 c12 := h_12
  subst h_12
  have h_13 : e13 = .bool p2 := h_13
  subst h_13
  have h_15 : e15 = .int .i64 (1 + (n11 : Int) + (n12 : Int)) := h_15
  subst h_15
  have h_121 : e121 = .slice a20 n20 c20 := h_121
  subst h_121
  have h_123 : e123 = .slice a21 n21 c21 := h_123
  subst h_123
  replace G7 : Gx u7 u29 := G7.trans hg
  replace k11 : Ints u29 a11 n11 (seqI 1 n11) := hg.ints k11
  replace k14 : Ints u29 a12 n12 (seqI (1 + (n11 : Int)) n12) := hg.ints k14
  clear hg
  refine Gw.gcall (oo := rXE35.getD 4 default) (g := 10) (args := #[.tmp 121, .tmp 123]) rfl rfl (bkn _) rfl Try.func10 nmCx rfl (vals := #[.slice a20 n20 c20, .slice a21 n21 c21]) (by simp [Act.eval]) (IntersectCounterexample_g x20 x21) fun X5 v u30 hg ⟨a17, n17, c17, a18, n18, c18, p3, T7, T8, hv, j17, j18, hc3, _⟩ => ?_
  subst hv
  obtain ⟨rfl, rfl, rfl⟩ := hc.one hc3
  clear hc3 x20 x21
  refine (?_ : ∀ A : Act, (A.tmps.size = 156 ∧ A.defers = [] ∧ A.tmps.getD 0 undef = .slice a0 n0 c0 ∧ A.tmps.getD 1 undef = .slice a1 n1 c1 ∧ A.tmps.getD 6 undef = .slice a6 n6 c6 ∧ A.tmps.getD 7 undef = .slice a7 n7 c7 ∧ A.tmps.getD 8 undef = .bool p2 ∧ A.tmps.getD 11 undef = .slice a11 n11 c11 ∧ A.tmps.getD 12 undef = .slice a12 n12 c12 ∧ A.tmps.getD 13 undef = .bool p2 ∧ A.tmps.getD 15 undef = .int .i64 (1 + (n11 : Int) + (n12 : Int)) ∧ A.tmps.getD 124 undef = .tuple #[.slice a17 n17 c17, .slice a18 n18 c18, .bool p2]) → Gw _ _ _ _ _ _ (G ((base 6).at A _) _)) _ ⟨rfl, rfl, rfl, rfl, rfl, rfl, rfl, rfl, rfl, rfl, rfl, rfl⟩
  intro A hA
  obtain ⟨T, ds⟩ := A
  obtain ⟨hsz, hds, h_0, h_1, h_6, h_7, h_8, h_11, h_12, h_13, h_15, h_124⟩ := hA
  obtain rfl : ds = [] := hds
  try clear hds
  replace hsz : T.size = 156 := hsz
  revert h_0 h_1 h_6 h_7 h_8 h_11 h_12 h_13 h_15 h_124
  revert hsz
  revert T
  refine arr156 ?_
  intro e0 e1 e2 e3 e4 e5 e6 e7 e8 e9 e10 e11 e12 e13 e14 e15 e16 e17 e18 e19 e20 e21 e22 e23 e24 e25 e26 e27 e28 e29 e30 e31 e32 e33 e34 e35 e36 e37 e38 e39 e40 e41 e42 e43 e44 e45 e46 e47 e48 e49 e50 e51 e52 e53 e54 e55 e56 e57 e58 e59 e60 e61 e62 e63 e64 e65 e66 e67 e68 e69 e70 e71 e72 e73 e74 e75 e76 e77 e78 e79 e80 e81 e82 e83 e84 e85 e86 e87 e88 e89 e90 e91 e92 e93 e94 e95 e96 e97 e98 e99 e100 e101 e102 e103 e104 e105 e106 e107 e108 e109 e110 e111 e112 e113 e114 e115 e116 e117 e118 e119 e120 e121 e122 e123 e124 e125 e126 e127 e128 e129 e130 e131 e132 e133 e134 e135 e136 e137 e138 e139 e140 e141 e142 e143 e144 e145 e146 e147 e148 e149 e150 e151 e152 e153 e154 e155 h_0 h_1 h_6 h_7 h_8 h_11 h_12 h_13 h_15 h_124
  have h_0 : e0 = .slice a0 n0 c0 := h_0
  subst h_0
  have h_1 : e1 = .slice a1 n1 c1 := h_1
  subst h_1
  have h_6 : e6 = .slice a6 n6 c6 := h_6
  subst h_6
  have h_7 : e7 = .slice a7 n7 c7 := h_7
  subst h_7
  have h_8 : e8 = .bool p2 := h_8
  subst h_8
  have h_11 : e11 = .slice a11 n11 c11 := h_11
  subst h_11
  have h_12 : e12 = .slice a12 n12 c12 := h_12
  subst h_12
  have h_13 : e13 = .bool p2 := h_13
  subst h_13
  have h_15 : e15 = .int .i64 (1 + (n11 : Int) + (n12 : Int)) := h_15
  subst h_15
  have h_124 : e124 = .tuple #[.slice a17 n17 c17, .slice a18 n18 c18, .bool p2] := h_124
  subst h_124
  replace G7 : Gx u7 u30 := G7.trans hg
  replace k11 : Ints u30 a11 n11 (seqI 1 n11) := hg.ints k11
  replace k14 : Ints u30 a12 n12 (seqI (1 + (n11 : Int)) n12) := hg.ints k14
  clear hg
  refine Gw.oprest CC RR (f := 6) (N := fun a' u' => (a'.tmps.size = 156 ∧ a'.defers = [] ∧ a'.tmps.getD 0 undef = .slice a0 n0 c0 ∧ a'.tmps.getD 1 undef = .slice a1 n1 c1 ∧ a'.tmps.getD 6 undef = .slice a6 n6 c6 ∧ a'.tmps.getD 7 undef = .slice a7 n7 c7 ∧ a'.tmps.getD 8 undef = .bool p2 ∧ a'.tmps.getD 11 undef = .slice a11 n11 c11 ∧ a'.tmps.getD 12 undef = .slice a12 n12 c12 ∧ a'.tmps.getD 13 undef = .bool p2 ∧ a'.tmps.getD 15 undef = .int .i64 (1 + (n11 : Int) + (n12 : Int)) ∧ a'.tmps.getD 17 undef = .slice a17 n17 c17 ∧ a'.tmps.getD 18 undef = .slice a18 n18 c18 ∧ a'.tmps.getD 19 undef = .bool p2)) rfl (kn_nil rfl) rfl (by kernel_rfl) (fun _ _ _ _ h => h) (fun t d => ?_) (fun A u31 hg hA => ?_)
  · generalize World.re u30 t d = v
    refine wpOps_rest 5 rfl ?_
    simp only [rXE35, bXE, cl, cr, ct, co, Try.f6, Option.getD_some, List.drop_succ_cons, List.drop_zero]
    go_wp2_with fail
    exact ⟨⟨rfl, rfl, rfl, rfl, rfl, rfl, rfl, rfl, rfl, rfl, rfl, rfl, rfl, rfl⟩, Ext.refl _ _⟩
  obtain ⟨T, ds⟩ := A
  obtain ⟨hsz, hds, h_0, h_1, h_6, h_7, h_8, h_11, h_12, h_13, h_15, h_17, h_18, h_19⟩ := hA
  obtain rfl : ds = [] := hds
  try clear hds
  replace hsz : T.size = 156 := hsz
  revert h_0 h_1 h_6 h_7 h_8 h_11 h_12 h_13 h_15 h_17 h_18 h_19
  revert hsz
  revert T
  refine arr156 ?_
  intro e0 e1 e2 e3 e4 e5 e6 e7 e8 e9 e10 e11 e12 e13 e14 e15 e16 e17 e18 e19 e20 e21 e22 e23 e24 e25 e26 e27 e28 e29 e30 e31 e32 e33 e34 e35 e36 e37 e38 e39 e40 e41 e42 e43 e44 e45 e46 e47 e48 e49 e50 e51 e52 e53 e54 e55 e56 e57 e58 e59 e60 e61 e62 e63 e64 e65 e66 e67 e68 e69 e70 e71 e72 e73 e74 e75 e76 e77 e78 e79 e80 e81 e82 e83 e84 e85 e86 e87 e88 e89 e90 e91 e92 e93 e94 e95 e96 e97 e98 e99 e100 e101 e102 e103 e104 e105 e106 e107 e108 e109 e110 e111 e112 e113 e114 e115 e116 e117 e118 e119 e120 e121 e122 e123 e124 e125 e126 e127 e128 e129 e130 e131 e132 e133 e134 e135 e136 e137 e138 e139 e140 e141 e142 e143 e144 e145 e146 e147 e148 e149 e150 e151 e152 e153 e154 e155 h_0 h_1 h_6 h_7 h_8 h_11 h_12 h_13 h_15 h_17 h_18 h_19
  have h_0 : e0 = .slice a0 n0 c0 := h_0
  subst h_0
  have h_1 : e1 = .slice a1 n1 c1 := h_1
  subst h_1
  have h_6 : e6 = .slice a6 n6 c6 := h_6
  subst h_6
  have h_7 : e7 = .slice a7 n7 c7 := h_7
  subst h_7
  have h_8 : e8 = .bool p2 := h_8
  subst h_8
  have h_11 : e11 = .slice a11 n11 c11 := h_11
  subst h_11
  have h_12 : e12 = .slice a12 n12 c12 := h_12
  subst h_12
  have h_13 : e13 = .bool p2 := h_13
  subst h_13
  have h_15 : e15 = .int .i64 (1 + (n11 : Int) + (n12 : Int)) := h_15
  subst h_15
  have h_17 : e17 = .slice a17 n17 c17 := h_17
  subst h_17
  have h_18 : e18 = .slice a18 n18 c18 := h_18
  subst h_18
  have h_19 : e19 = .bool p2 := h_19
  subst h_19
  replace j17 : Ints u31 a17 n17 T5 := hg.ints j17
  replace j18 : Ints u31 a18 n18 T6 := hg.ints j18
  replace G7 : Gx u7 u31 := G7.trans hg
  replace k11 : Ints u31 a11 n11 (seqI 1 n11) := hg.ints k11
  replace k14 : Ints u31 a12 n12 (seqI (1 + (n11 : Int)) n12) := hg.ints k14
  clear hg
  refine Gw.seg CC RR (f := 6) (N := fun _ _ => False) (Rt := fun a' _ => a'.tmps.getD 4 undef = .bool true) rfl (kn_nil rfl) rfl (by kernel_rfl) (fun _ _ _ _ h => h) (fun _ _ _ _ h => h) (fun t d => ?_) (fun _ _ _ h => h.elim) fun A u32 todo hd hg h => leave hd h
  · have J1 : Ints (World.re u31 t d) a17 n17 T5 := j17
    have J2 : Ints (World.re u31 t d) a18 n18 T6 := j18
    have I6 : Ints (World.re u31 t d) a6 n6 T5 := G7.ints i6
    have I7 : Ints (World.re u31 t d) a7 n7 T6 := G7.ints i7
    have H1 : Ints (World.re u31 t d) a11 n11 (seqI 1 n11) := k11
    have H2 : Ints (World.re u31 t d) a12 n12 (seqI (1 + (n11 : Int)) n12) := k14
    generalize World.re u31 t d = v at J1 J2 I6 I7 H1 H2
    clear hc ht0 ht1 h0 h1 j17 j18 i6 i7 k11 k14 leave
    simp only [bXE, cl, cr, ct, co, Try.f6, Option.getD_some]
    have hb : (p2 != p2) = false := by cases p2 <;> rfl
    have hq1 : ¬ ((1 + (n11 : Int)) < 0) := by omega
    have hq2 : ¬ ((1 + (n11 : Int) + (n12 : Int)) < 0) := by omega
    have HE1 := Lib.hid (same_refl T5)
    have HE2 := Lib.hid (same_refl T6)
    go_wp2_with fail
    refine (eqIntS_is J1 I6 HE1.out).mono ?_; rintro e w1 ⟨rfl, d1⟩
    go_wp2_with fail
    refine (eqIntS_is (J2.ext d1.ext) (I7.ext d1.ext) HE2.out).mono ?_; rintro e w2 ⟨rfl, d2⟩
    have HE := Lib.hid ((d1.ext (r := none)).trans (d2.ext (r := none)))
    clear d1 d2
    go_wp2_with fail
    refine (heldIntS_any (H1.ext HE.out) (by omega) (by omega) (by omega)).mono ?_; rintro e w3 ⟨rfl, rfl⟩
    go_wp2_with fail
    refine (heldIntS_any (H2.ext HE.out) (by omega) (by omega) (by omega)).mono ?_; rintro e w3 ⟨rfl, rfl⟩
    go_wp2_with fail
    exact ⟨rfl, HE.out⟩
end Go.Proofs.Ytnifgfnhcjhodaa
