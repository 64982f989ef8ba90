/- XPY: several texts in one. Conditions: each lemma's own. -/
import Derived.Test.YtnifgfnhcjhodaaPX



namespace Go.Proofs.Ytnifgfnhcjhodaa
set_option linter.unusedVariables false
set_option linter.unusedSimpArgs false
section
open Go.Conc Go.ConcN Go.RowKit Go.Conc.Lib Go.ConcR.Gen Go.ConcN.Gen
open Go.ConcR (KK wgBlock WgAt stA smA rd wr Payload ofEvent_cell)

section
variable {a : Act} {w : World} {o : Oper} {x y : Operand} {ad : Addr}
theorem al3 (h : o.op = .alloc 3) : (execOp a.eval o).run Try.prog w = .ok (.value (.pointer (some ⟨w.heap.size, 0, none⟩))) (w.alloc (.cells #[.int .i64 0] 3)) ∧ (execOp a.eval o).events Try.prog w #[] = #[] := by
  constructor <;> unfold execOp <;> simp only [h] <;> simp [go_sem]
theorem al52 (h : o.op = .alloc 52) : (execOp a.eval o).run Try.prog w = .ok (.value (.pointer (some ⟨w.heap.size, 0, none⟩))) (w.alloc (.cells #[.int .u64 0] 52)) ∧ (execOp a.eval o).events Try.prog w #[] = #[] := by
  constructor <;> unfold execOp <;> simp only [h] <;> simp [go_sem]
theorem st3 {v : Int} {u : Value} (h : o.op = .store 3 x y) (hx : a.eval x = .pointer (some ad)) (hy : a.eval y = .int .i64 v) (hc : w.cell? ad = some u) (hz : w.frozen? ad = false) :
    (execOp a.eval o).run Try.prog w = .ok .skip (w.setCell ad (.int .i64 v)) ∧ (execOp a.eval o).events Try.prog w #[] = #[⟨.cell ad, true, false⟩] := by
  constructor <;> unfold execOp <;> simp only [h, hx, hy] <;> simp [go_sem, stored, storedEv, hc, hz]
theorem st52 {v : Int} {u : Value} (h : o.op = .store 52 x y) (hx : a.eval x = .pointer (some ad)) (hy : a.eval y = .int .u64 v) (hc : w.cell? ad = some u) (hz : w.frozen? ad = false) :
    (execOp a.eval o).run Try.prog w = .ok .skip (w.setCell ad (.int .u64 v)) ∧ (execOp a.eval o).events Try.prog w #[] = #[⟨.cell ad, true, false⟩] := by
  constructor <;> unfold execOp <;> simp only [h, hx, hy] <;> simp [go_sem, stored, storedEv, hc, hz]
theorem mkf {f : FuncId} {x1 x2 x3 x4 x5 : Operand} (h : o.op = .makeFunc (.func f) #[] #[x1, x2, x3, x4, x5]) :
    (execOp a.eval o).run Try.prog w = .ok (.value (.func (.func f) #[] #[a.eval x1, a.eval x2, a.eval x3, a.eval x4, a.eval x5])) w ∧ (execOp a.eval o).events Try.prog w #[] = #[] := by
  constructor <;> unfold execOp <;> simp only [h, List.map_toArray, List.map_cons, List.map_nil] <;> simp [go_sem, Instr.makeFunc]
theorem gosp {f : FuncId} {cap : Array Value} (h : o.op = .go { callee := .value x, args := #[], argTypes := #[] }) (hx : a.eval x = .func (.func f) #[] cap) :
    (execOp a.eval o).run Try.prog w = .ok (.spawn { target := .fn (.func f) cap, args := #[] }) w ∧ (execOp a.eval o).events Try.prog w #[] = #[] := by
  constructor <;> unfold execOp <;> simp only [h, resolve, hx, List.map_toArray, List.map_cons, List.map_nil] <;> simp [go_sem, Deferred.ofValue]
end

/-- What the starter is told: the lay; where y and the rows lie; y's row; x's row. -/
structure CS where
  L : Lay
  X : Nat → Prop
  Yb : Nat
  Rb : Nat
  ny : Nat
  cy : Nat
  ya : Option Addr
  y : Nat → Int
  cx : Nat
  xa : Option Addr
  x : Nat → Int
  W0 : World
def CS.wc (c : CS) (i Ib Ab : Nat) : WC := ⟨c.L, c.X, c.Yb, c.Rb, Ib, Ab, i, c.ny, c.cy, c.ya, c.y, c.x i⟩
def CS.lowR (c : CS) (b : Nat) : Prop := b < c.L.N ∧ b ≠ c.L.Wg ∧ b ≠ c.L.C ∧ ¬ c.X b
structure CSOk (c : CS) : Prop where
  hL : LayOk c.L
  Y : c.lowR c.Yb
  R : c.lowR c.Rb
  A : ∀ ad, 0 < c.ny → c.ya = some ad → c.lowR ad.block
  B : ∀ ad, 0 < c.L.n → c.xa = some ad → c.lowR ad.block
  nz : 0 < c.ny → ∃ ad, c.ya = some ad
  nzx : 0 < c.L.n → ∃ ad, c.xa = some ad
  hny : c.ny < 2000000
  hn : c.L.n < 2000000
theorem CSOk.wc {c : CS} (K : CSOk c) {i Ib Ab : Nat} (hi : i < c.L.n) : WCOk (c.wc i Ib Ab) := ⟨K.hL, K.Y, K.R, K.A, K.nz, hi, K.hny⟩

structure SF (c : CS) (w : World) : Prop where
  yb : w.cell? ⟨c.Yb, 0, none⟩ = some (.slice c.ya c.ny c.cy)
  rb : w.cell? ⟨c.Rb, 0, none⟩ = some (.slice (some ⟨c.L.C, 0, none⟩) c.L.n c.L.n)
  ys : ∀ k ad, k < c.ny → c.ya = some ad → w.cell? (ad.add k) = some (.int .u64 (c.y k))
  xs : ∀ k ad, k < c.L.n → c.xa = some ad → w.cell? (ad.add k) = some (.int .u64 (c.x k))
  sz : c.L.N ≤ w.heap.size
  pay : PayAt c.L.C c.L.n w
  low : ∀ b, b < c.L.N → b ≠ c.L.Wg → b ≠ c.L.C → w.heap[b]? = c.W0.heap[b]?
  io : w.os = c.W0.os ∧ w.output = c.W0.output
/-- .. and its two new variables. -/
structure SF2 (c : CS) (o : List Nat) (Ib Ab i : Nat) (w : World) : Prop where
  sf : SF c w
  oI : Ib ∈ o
  oA : Ab ∈ o
  oN : ∀ b ∈ o, c.L.N ≤ b
  ib : w.cell? ⟨Ib, 0, none⟩ = some (.int .i64 i)
  ab : w.cell? ⟨Ab, 0, none⟩ = some (.int .u64 (c.x i))

section
variable {c : CS} {o : List Nat} {w w₁ w' : World} {Ib Ab i : Nat}
/-- It stands where the low blocks stand. -/
theorem SF.keep (K : CSOk c) (h : SF c w) (hs : w.heap.size ≤ w'.heap.size) (hk : ∀ b, b < c.L.N → b ≠ c.L.Wg → b ≠ c.L.C → w'.heap[b]? = w.heap[b]?) (hp : PayAt c.L.C c.L.n w → PayAt c.L.C c.L.n w') (io : w'.os = w.os ∧ w'.output = w.output) : SF c w' :=
  ⟨(World.cell?_of_block (hk _ K.Y.1 K.Y.2.1 K.Y.2.2.1)).trans h.yb, (World.cell?_of_block (hk _ K.R.1 K.R.2.1 K.R.2.2.1)).trans h.rb,
   fun k ad hk' e => (World.cell?_of_block (a := ad.add k) (by rw [addBlock]; exact hk _ (K.A ad (Nat.zero_lt_of_lt hk') e).1 (K.A ad (Nat.zero_lt_of_lt hk') e).2.1 (K.A ad (Nat.zero_lt_of_lt hk') e).2.2.1)).trans (h.ys k ad hk' e),
   fun k ad hk' e => (World.cell?_of_block (a := ad.add k) (by rw [addBlock]; exact hk _ (K.B ad (Nat.zero_lt_of_lt hk') e).1 (K.B ad (Nat.zero_lt_of_lt hk') e).2.1 (K.B ad (Nat.zero_lt_of_lt hk') e).2.2.1)).trans (h.xs k ad hk' e), Nat.le_trans h.sz hs, hp h.pay, fun b h1 h2 h3 => (hk b h1 h2 h3).trans (h.low b h1 h2 h3), io.1.trans h.io.1, io.2.trans h.io.2⟩
theorem SF.rely (K : CSOk c) (h : SF c w) (r : RO 81 c.L none o w w₁) : SF c w₁ := h.keep K r.size r.low r.pay r.io
theorem SF.aside (K : CSOk c) (h : SF c w) (r : Aside c.L.Wg w w₁) : SF c w₁ :=
  h.keep K (Nat.le_of_eq r.size.symm) (fun b _ hb _ => r.block b hb) (fun ⟨cs, h1, h2⟩ => ⟨cs, (r.block _ K.hL.ne).trans h1, h2⟩) ⟨r.os, r.output⟩
theorem SF2.rely (K : CSOk c) (h : SF2 c o Ib Ab i w) (r : RO 81 c.L none o w w₁) : SF2 c o Ib Ab i w₁ :=
  ⟨h.sf.rely K r, h.oI, h.oA, h.oN, (World.cell?_of_block (r.own _ h.oI)).trans h.ib, (World.cell?_of_block (r.own _ h.oA)).trans h.ab⟩
theorem SF2.aside (K : CSOk c) (h : SF2 c o Ib Ab i w) (r : Aside c.L.Wg w w₁) : SF2 c o Ib Ab i w₁ := by
  have hW := K.hL.hW
  exact ⟨h.sf.aside K r, h.oI, h.oA, h.oN, (World.cell?_of_block (r.block _ (by have := h.oN _ h.oI; show Ib ≠ _; omega))).trans h.ib, (World.cell?_of_block (r.block _ (by have := h.oN _ h.oA; show Ab ≠ _; omega))).trans h.ab⟩
theorem SF2.wk (h : SF2 c o Ib Ab i w) (hl : WgLive 81 c.L.Wg w) : WK (c.wc i Ib Ab) o w := ⟨h.sf.yb, h.sf.rb, h.ib, h.ab, h.sf.ys, h.oI, h.oA, h.oN, hl, h.sf.pay⟩

abbrev EvOs (c : CS) (o : List Nat) := EvO c.L c.X none o 0
theorem evs_low {ad : Addr} (h : c.lowR ad.block) : EvOs c o ⟨.cell ad, false, false⟩ := by
  refine ⟨fun x hx => ⟨ad, ?_⟩, by simp, by simp, by simp⟩
  simp only [ofEvent_cell, MemAct.touch?, Option.some.injEq] at hx
  subst hx
  exact ⟨rfl, .inl ⟨rfl, .inr (.inr ⟨rfl, h.1, h.2.1, h.2.2.1, h.2.2.2⟩)⟩⟩
theorem evs_own {ad : Addr} {b : Bool} (h : ad.block ∈ o) : EvOs c o ⟨.cell ad, b, false⟩ := by
  refine ⟨fun x hx => ⟨ad, ?_⟩, by simp, by simp, by simp⟩
  simp only [ofEvent_cell, MemAct.touch?, Option.some.injEq] at hx
  subst hx
  exact ⟨rfl, .inl ⟨rfl, .inl h⟩⟩
/-- A new block. -/
theorem do_alloc (K : CSOk c) (h : SF c w) (ob : Obj) : DO c.L none o (w.heap.size :: o) w (w.alloc ob) ∧ SF c (w.alloc ob) ∧ (WgLive 81 c.L.Wg w → WgLive 81 c.L.Wg (w.alloc ob)) := by
  have hN := h.sz
  have hC := K.hL.hC
  have hW := K.hL.hW
  have keep : ∀ b, b < w.heap.size → (w.alloc ob).heap[b]? = w.heap[b]? := fun b hb => heap_alloc_old _ _ b hb
  have hp : PayAt c.L.C c.L.n w → PayAt c.L.C c.L.n (w.alloc ob) := fun ⟨arr, p1, p2⟩ => ⟨arr, (keep _ (by omega)).trans p1, p2⟩
  refine ⟨⟨.inr rfl, by simp, fun b hb => ?_, fun b hb _ _ => keep b hb, hp, fun i' _ => World.cell?_of_block (keep _ (by show c.L.C < _; omega)), rfl, rfl⟩, h.keep K (by simp) (fun b hb _ _ => keep b (by omega)) hp ⟨rfl, rfl⟩, fun ⟨st, sm, x⟩ => ⟨st, sm, x.of_block (keep _ (by omega))⟩⟩
  rcases List.mem_cons.1 hb with rfl | hb
  · exact .inr ⟨rfl, by simp⟩
  · exact .inl hb
/-- A store into a block of its own. -/
theorem do_own (K : CSOk c) (h : SF c w) {b : Nat} (hb : b ∈ o) (hN : c.L.N ≤ b) (v : Value) : DO c.L none o o w (w.setCell ⟨b, 0, none⟩ v) ∧ SF c (w.setCell ⟨b, 0, none⟩ v) ∧ (WgLive 81 c.L.Wg w → WgLive 81 c.L.Wg (w.setCell ⟨b, 0, none⟩ v)) := by
  have hC := K.hL.hC
  have hW := K.hL.hW
  have hA := aside_setCell w ⟨b, 0, none⟩ v
  have keep : ∀ k, k ≠ b → (w.setCell ⟨b, 0, none⟩ v).heap[k]? = w.heap[k]? := hA.block
  have hp : PayAt c.L.C c.L.n w → PayAt c.L.C c.L.n (w.setCell ⟨b, 0, none⟩ v) := fun ⟨arr, p1, p2⟩ => ⟨arr, (keep _ (by omega)).trans p1, p2⟩
  exact ⟨⟨.inl rfl, Nat.le_of_eq hA.size.symm, fun k hk => .inl hk, fun k _ hk _ => keep k (fun e => hk (e ▸ hb)), hp, fun i' _ => World.cell?_of_block (keep _ (by show c.L.C ≠ _; omega)), hA.os, hA.output⟩,
    h.keep K (Nat.le_of_eq hA.size.symm) (fun k hk _ _ => keep k (by omega)) hp ⟨hA.os, hA.output⟩, fun ⟨st, sm, x⟩ => ⟨st, sm, x.of_block (keep _ (by omega))⟩⟩
end

/-! ### the stops, whatever the anchor -/
section
variable [Payload] {P : Program} {main : Bool} {ty : TypeId} {L : Lay} {X : Nat → Prop} {ci : Option Nat} {H : Ph}
theorem GoesO.stop_mono {S S' : List Nat → Goroutine → World → Prop} (h : ∀ o g w, S o g w → S' o g w) : ∀ {n : Nat} {o : List Nat} {g : Goroutine} {w : World}, GoesO P main ty L X ci S n o g w → GoesO P main ty L X ci S' n o g w
  | 0, o, g, w, x => fun w₁ h₁ => h _ _ _ (x w₁ h₁)
  | n + 1, o, g, w, x => by
    rcases x with x | ⟨hs, x⟩
    · exact .inl fun w₁ h₁ => h _ _ _ (x w₁ h₁)
    · refine .inr ⟨hs, fun w₁ h₁ => ?_⟩
      have := x w₁ h₁
      revert this
      cases stepG P main g w₁ <;> simp only [GStep.goes, imp_self]
      exact fun ⟨o', d, y⟩ => ⟨o', d, GoesO.stop_mono h y⟩
theorem AtW2.mono {AW AW' : List Nat → Goroutine → World → Prop} (h : ∀ o g w, AW o g w → AW' o g w) {vs : Nat} (o : List Nat) (g : Goroutine) (w : World) (x : H.AtW2 AW vs o g w) : H.AtW2 AW' vs o g w :=
  ⟨x.1, fun v hv hw => ⟨(x.2 v hv hw).1, fun e => let ⟨g', h1, m, h2⟩ := (x.2 v hv hw).2 e; ⟨g', h1, m, h2.stop_mono h⟩⟩⟩
theorem AtW1.mono {AW AW' : List Nat → Goroutine → World → Prop} (h : ∀ o g w, AW o g w → AW' o g w) (o : List Nat) (g : Goroutine) (w : World) (x : H.AtW1 AW o g w) : H.AtW1 AW' o g w :=
  ⟨x.1, fun v hv hw => let ⟨g', h1, h2, h3⟩ := x.2 v hv hw; ⟨g', h1, h2, fun e => let ⟨m, h4⟩ := h3 e; ⟨m, h4.stop_mono (AtW2.mono h)⟩⟩⟩
theorem AtKd.mono {AW AW' : List Nat → Goroutine → World → Prop} (h : ∀ o g w, AW o g w → AW' o g w) (o : List Nat) (g : Goroutine) (w : World) (x : H.AtKd AW o g w) : H.AtKd AW' o g w :=
  ⟨x.1, let ⟨g', h1, m, h2⟩ := x.2; ⟨g', h1, m, h2.stop_mono h⟩⟩
/-- Whatever is still to be started: a walk to some stop. -/
theorem spawns_is (Fn : List Nat → Goroutine → World → Prop) (hFn : ∃ S, ∀ o g w, Fn o g w ↔ ∃ m, H.GP S m o g w) : ∀ r, ∃ S, ∀ o g w, H.Spawns Fn r o g w ↔ ∃ m, H.GP S m o g w
  | 0 => hFn
  | r + 1 => ⟨_, fun o g w => Iff.rfl⟩
end
end

section
open Go.Conc Go.ConcN Go.RowKit Go.Conc.Lib Go.ConcR.Gen Go.ConcN.Gen
open Go.ConcR (KK wgBlock WgAt stA smA rd wr Payload ofEvent_cell)

def b32 : Frame := base 32
noncomputable def body32 : Code := Try.f32.body.getD .skip
noncomputable def tail32 : Code := cr (cr (cr body32))
noncomputable def lp32 : Code := cl (cl (cr (cl tail32)))
noncomputable def end32 : Code := cr tail32
noncomputable def in32 : Code := cl (cl (cr (cr lp32)))
noncomputable def q3 : Array Oper := co (cl (cl tail32))
noncomputable def q4 : Array Oper := co (cl lp32)
noncomputable def q5 : Array Oper := co (cl in32)
noncomputable def q6 : Array Oper := co (cl (cr in32))
noncomputable def q7 : Array Oper := co (cr (cr in32))
noncomputable def q8 : Array Oper := co (cr (cr (cr lp32)))
noncomputable def q9 : Array Oper := co (cl end32)
noncomputable def q10 : Array Oper := co (cl (cr end32))
theorem tail_eq : tail32 = .seq (.seq (.region 3 q3 false) (.block 0 (.loop lp32))) end32 := rfl
theorem lp_eq : lp32 = .seq (.region 4 q4 false) (.seq (.cond (.tmp 15) .skip (.exit 0)) (.seq (.block 1 in32) (.region 8 q8 false))) := rfl
theorem in_eq : in32 = .seq (.region 5 q5 false) (.seq (.region 6 q6 false) (.region 7 q7 false)) := rfl
theorem end_eq : end32 = .seq (.region 9 q9 false) (.seq (.region 10 q10 false) .ret) := rfl
theorem zq3 : q3.size = 3 := rfl
theorem zq4 : q4.size = 1 := rfl
theorem zq5 : q5.size = 7 := rfl
theorem zq6 : q6.size = 1 := rfl
theorem zq7 : q7.size = 2 := rfl
theorem zq8 : q8.size = 2 := rfl
theorem zq9 : q9.size = 1 := rfl
theorem range7 : List.range 7 = [0, 1, 2, 3, 4, 5, 6] := rfl
theorem bk32 : b32.kind ≠ .early := by simp [b32, base]

set_option maxRecDepth 10000 in
theorem app84 (v : Value) : #[v] ++ Array.replicate 83 undef = #[v, undef, undef, undef, undef, undef, undef, undef, undef, undef, undef, undef, undef, undef, undef, undef, undef, undef, undef, undef, undef, undef, undef, undef, undef, undef, undef, undef, undef, undef, undef, undef, undef, undef, undef, undef, undef, undef, undef, undef, undef, undef, undef, undef, undef, undef, undef, undef, undef, undef, undef, undef, undef, undef, undef, undef, undef, undef, undef, undef, undef, undef, undef, undef, undef, undef, undef, undef, undef, undef, undef, undef, undef, undef, undef, undef, undef, undef, undef, undef, undef, undef, undef, undef] := by
  apply Array.ext'
  simp [List.replicate_succ]
set_option maxRecDepth 10000 in
theorem app117 (v u : Value) : #[v, u] ++ Array.replicate 115 undef = #[v, u, undef, undef, undef, undef, undef, undef, undef, undef, undef, undef, undef, undef, undef, undef, undef, undef, undef, undef, undef, undef, undef, undef, undef, undef, undef, undef, undef, undef, undef, undef, undef, undef, undef, undef, undef, undef, undef, undef, undef, undef, undef, undef, undef, undef, undef, undef, undef, undef, undef, undef, undef, undef, undef, undef, undef, undef, undef, undef, undef, undef, undef, undef, undef, undef, undef, undef, undef, undef, undef, undef, undef, undef, undef, undef, undef, undef, undef, undef, undef, undef, undef, undef, undef, undef, undef, undef, undef, undef, undef, undef, undef, undef, undef, undef, undef, undef, undef, undef, undef, undef, undef, undef, undef, undef, undef, undef, undef, undef, undef, undef, undef, undef, undef, undef, undef] := by
  apply Array.ext'
  simp [List.replicate_succ]
/-- The slots that the loop does not turn. -/
structure Sx (c : CS) (j : Nat) (t : Array Value) : Prop where
  sz : t.size = 24
  t3 : t.getD 3 undef = .pointer (some ⟨c.Yb, 0, none⟩)
  t5 : t.getD 5 undef = .pointer (some ⟨c.Rb, 0, none⟩)
  t6 : t.getD 6 undef = .pointer (some ⟨c.L.Wg, 0, none⟩)
  t12 : t.getD 12 undef = .slice c.xa c.L.n c.cx
  t13 : t.getD 13 undef = .int .i64 c.L.n
  t14 : t.getD 14 undef = .int .i64 j
theorem Sx.set {c : CS} {j : Nat} {t : Array Value} (h : Sx c j t) {d : Nat} (v : Value) (hd : d ≠ 3 ∧ d ≠ 5 ∧ d ≠ 6 ∧ d ≠ 12 ∧ d ≠ 13 ∧ d ≠ 14) (hd' : d < 24) : Sx c j (t.setIfInBounds d v) := by
  have hs := h.sz
  obtain ⟨h3, h5, h6, h12, h13, h14⟩ := hd
  refine ⟨by simpa using hs, ?_, ?_, ?_, ?_, ?_, ?_⟩ <;> rw [getD_set _ _ _ _ (by omega), if_neg (by omega)]
  all_goals first | exact h.t3 | exact h.t5 | exact h.t6 | exact h.t12 | exact h.t13 | exact h.t14

/-- Where the starter stands behind Wait. -/
def AncS (c : CS) (cs : List Frame) (g : Goroutine) (w : World) : Prop :=
  ∃ A : Act, g = G (b32.at A [.inRegion q9 [], .code (.seq (.region 10 q10 false) .ret)]) cs ∧ A.defers = [] ∧ Sx c c.L.n A.tmps ∧ SF c w
def FinS (c : CS) (i : Nat) (o : List Nat) (w : World) : Prop := FinC (c.wc i 0 0) o w
noncomputable abbrev Hs (c : CS) (cs : List Frame) : Ph := Phl Try.prog Try.link c.L c.X (FinS c) (AncS c cs)
/-- The anchor. -/
def AWs (c : CS) (cs : List Frame) (o : List Nat) (g : Goroutine) (w : World) : Prop :=
  ∃ A : Act, A.defers = [] ∧ Sx c c.L.n A.tmps ∧ AnchO Try.link c.L (SF c) (b32.at A [.inRegion q9 [0], .code (.seq (.region 10 q10 false) .ret)]) cs o g w

section
variable {c : CS} {j : Nat} {o : List Nat} {A : Act} {w w₁ : World} {Stop : List Nat → Goroutine → World → Prop} {k : List Item} {cs : List Frame}
abbrev GSc (c : CS) (Stop : List Nat → Goroutine → World → Prop) := GoesO Try.prog true 81 c.L c.X none Stop

/-- An operation that turns no memory. -/
theorem GoesO.pureS {n : Nat} {ops : Array Oper} {i : Nat} {rest : List Nat} {oo : Oper} {v : Value} (ho : ops[i]? = some oo) (hg : oo.guard = none)
    (h : ∀ w₁, RO 81 c.L none o w w₁ → (execOp A.eval oo).run Try.prog w₁ = .ok (.value v) w₁ ∧ ∀ e ∈ (execOp A.eval oo).events Try.prog w₁ #[], EvOs c o e)
    (hk : GSc c Stop n o (G (b32.at (A.put oo.dst v) (.inRegion ops rest :: k)) cs) w) : GSc c Stop (n + 1) o (G (b32.at A (.inRegion ops (i :: rest) :: k)) cs) w :=
  GoesO.op ho (by simp [Region.wanted, hg]) bk32 fun w₁ h₁ => let ⟨hr, he⟩ := h w₁ h₁; ⟨v, w₁, o, .inl hr, .idle _, fun e hm => he e (mem_listed hm), hk.rely h₁⟩
theorem evn0 {x : Sem Next} (hx : x.events Try.prog w #[] = #[]) : ∀ e ∈ x.events Try.prog w #[], EvOs c o e := fun e he => by rw [hx] at he; simp at he
theorem evs0 {x : Sem Next} {y : Event} (hx : x.events Try.prog w #[] = #[y]) (hy : EvOs c o y) : ∀ e ∈ x.events Try.prog w #[], EvOs c o e := fun e he => by rw [hx] at he; rw [single_ev he]; exact hy

theorem anc_run (o : List Nat) (g : Goroutine) (w : World) (h : AWs c cs o g w) : g.status = .running := by
  obtain ⟨A, _, _, _, T, rfl, _⟩ := h
  rfl
theorem aw_goes (K : CSOk c) (o : List Nat) (g : Goroutine) (w : World) (h : AWs c cs o g w) : ∃ m, (Hs c cs).GP ((Hs c cs).AtW1 (AWs c cs)) m o g w := by
  obtain ⟨A, hd, hS, h⟩ := h
  obtain ⟨m, hm⟩ := waitRoundG (L := Try.link) (P := Try.prog) (Y := c.L) (X := c.X) (F := SF c) (Fin := FinS c) (Anc := AncS c cs) (b₀ := b32) (a₀ := A) (ops₀ := q9) (i₀ := 0) (rest₀ := []) (k₀ := [.code (.seq (.region 10 q10 false) .ret)]) (cs := cs) (mT := 0) Try.wgLib
    (fun a b r h => h.rely K r) (fun a b r h => h.aside K r) (fun w hF hl => GoesO.stop fun w₁ r => ⟨rfl, _, rfl, hd, hS.set _ (by decide) (by decide), hF.rely K r⟩) o g w h
  exact ⟨m, hm.stop_mono (AtW1.mono fun o g w x => ⟨A, hd, hS, x⟩)⟩
theorem fin_stays (K : CSOk c) : FinStays (Hs c cs) := by
  refine ⟨fun i o w w₁ r h => ?_, fun i o w d h => h⟩
  obtain ⟨s, h1, h2, h3⟩ := h
  exact ⟨s, (r.cell i rfl).trans h1, row_of_block h2 fun g hg => r.own g (h3 g hg), h3⟩
theorem SF.at (h : SF c w) (d : Nat) : SF c (w.at d) := ⟨h.yb, h.rb, h.ys, h.xs, h.sz, h.pay, h.low, h.io⟩
theorem phOk (K : CSOk c) (hX : ∀ b, c.X b → b < c.L.N ∧ b ≠ c.L.C) : PhOk (Hs c cs) (AWs c cs) :=
  ⟨K.hL, hX, fin_stays K, by have := K.hn; show c.L.n < _; omega, anc_run, aw_goes K, fun g w d ⟨A, h1, h2, h3, h4⟩ => ⟨A, h1, h2, h3, h4.at d⟩⟩

set_option maxRecDepth 10000 in
/-- Out of the loop, into Wait. -/
theorem fin_walk (K : CSOk c) (hA : A.defers = []) (hS : Sx c c.L.n A.tmps) (hF : SF c w) (hl : WgLive 81 c.L.Wg w) :
    (Hs c cs).FinS (AWs c cs) [] (G (b32.at A [.code lp32, .inLoop lp32, .inBlock 0, .code end32]) cs) w := by
  have hs := hS.sz
  refine ⟨3 + 10, ?_⟩
  show GSc c ((Hs c cs).AtKd (AWs c cs)) (3 + 10) [] _ w
  rw [lp_eq]
  refine GoesO.ctl rfl (fun w => stepG_seq) ?_
  refine GoesO.ctl rfl (fun w => stepG_region) ?_
  rw [zq4, range1]
  refine GoesO.pureS (v := .bool (decide (c.L.n < c.L.n))) (oo := q4.getD 0 default) rfl rfl (fun w₁ h₁ => let r := lss_run (w := w₁) (a := A) (o := q4.getD 0 default) (x := .tmp 14) (y := .tmp 13) rfl hS.t14 hS.t13; ⟨r.1, evn0 r.2⟩) ?_
  refine GoesO.ctl rfl (fun w => stepG_region_end) ?_
  refine GoesO.ctl rfl (fun w => stepG_seq) ?_
  have e15 : (Act.put A (q4.getD 0 default).dst (.bool (decide (c.L.n < c.L.n)))).eval (.tmp 15) = .bool false := by
    show (A.tmps.setIfInBounds 15 _).getD 15 undef = _
    rw [getD_set _ _ _ _ (by omega), if_pos rfl]
    simp
  refine GoesO.ctl rfl (fun w => stepG_cond e15) ?_
  have hS' : Sx c c.L.n (Act.put A (q4.getD 0 default).dst (.bool (decide (c.L.n < c.L.n)))).tmps := hS.set _ (by decide) (by decide)
  have hA' : (Act.put A (q4.getD 0 default).dst (.bool (decide (c.L.n < c.L.n)))).defers = [] := hA
  generalize Act.put A (q4.getD 0 default).dst (.bool (decide (c.L.n < c.L.n))) = A1 at hS' hA' ⊢
  refine GoesO.ctl rfl (fun w => stepG_exit (k' := [.code end32]) rfl) ?_
  rw [end_eq]
  refine GoesO.ctl rfl (fun w => stepG_seq) ?_
  refine GoesO.ctl rfl (fun w => stepG_region) ?_
  rw [zq9, range1]
  refine GoesO.step rfl fun w₁ h₁ => ?_
  refine goes_call (o := q9.getD 0 default) (args := #[.tmp 6]) (ats := #[81]) (fn := waitFn Try.link) (c := body_wait Try.link) rfl rfl bk32 rfl Try.wgLib.f_wait (nm_wait Try.link) rfl ⟨[], ⟨.idle _, by simp⟩, ?_⟩
  have e1 : (#[.tmp 6] : Array Operand).map A1.eval = #[.pointer (some ⟨c.L.Wg, 0, none⟩)] := by
    have : A1.eval (.tmp 6) = .pointer (some ⟨c.L.Wg, 0, none⟩) := hS'.t6
    simp [this]
  rw [e1]
  have e2 : ((waitFn Try.link).ntmps - (#[.pointer (some ⟨c.L.Wg, 0, none⟩)] : Array Value).size) = 83 := rfl
  rw [e2, app84]
  refine GoesO.stop_mono (S := (Hs c cs).AtKd (AnchO Try.link c.L (SF c) (b32.at A1 [.inRegion q9 [0], .code (.seq (.region 10 q10 false) .ret)]) cs)) (AtKd.mono fun o g w x => ⟨A1, hA', hS', x⟩) ?_
  exact waitStartG (L := Try.link) (P := Try.prog) (Y := c.L) (X := c.X) (F := SF c) (Fin := FinS c) (Anc := AncS c cs) (b₀ := b32) (a₀ := A1) (ops₀ := q9) (i₀ := 0) (rest₀ := []) (k₀ := [.code (.seq (.region 10 q10 false) .ret)]) (cs := cs) Try.wgLib (fun a b r h => h.rely K r) w₁ ⟨hF.rely K h₁, h₁.live hl⟩
end
end

section
open Go.Conc Go.ConcN Go.RowKit Go.Conc.Lib Go.ConcR.Gen Go.ConcN.Gen
open Go.ConcR (KK wgBlock WgAt stA smA rd wr Payload ofEvent_cell)

theorem one_cell {w : World} {b : Nat} {u : Value} {t : TypeId} (h : w.heap[b]? = some (.cells #[u] t)) : w.cell? ⟨b, 0, none⟩ = some u ∧ w.frozen? ⟨b, 0, none⟩ = false := ⟨by simp [World.cell?, h], by simp [World.frozen?, h]⟩
theorem one_set {w : World} {b : Nat} {u : Value} {t : TypeId} (h : w.heap[b]? = some (.cells #[u] t)) (v : Value) : (w.setCell ⟨b, 0, none⟩ v).heap[b]? = some (.cells #[v] t) := by
  rw [setCell_eq_setRow w b 0 #[u] t (0, 0) _ h, setRow_heap w b _ _ t _ h]
  simp

section
variable {c : CS} {j : Nat} {o : List Nat} {A : Act} {w w₁ : World} {k : List Item} {cs : List Frame}
noncomputable abbrev headT : List Item := [.code lp32, .inLoop lp32, .inBlock 0, .code end32]
noncomputable abbrev restT : List Item := [.inBlock 1, .code (.region 8 q8 false), .inLoop lp32, .inBlock 0, .code end32]

set_option maxRecDepth 10000 in
/-- Behind Add: the go statement. -/
theorem go_walk (K : CSOk c) {r : Nat} (hj : j + (r + 1) = c.L.n) {Ib Ab : Nat} (hA : A.defers = []) (hS : Sx c j A.tmps) (h7 : A.tmps.getD 7 undef = .pointer (some ⟨Ib, 0, none⟩)) (h8 : A.tmps.getD 8 undef = .pointer (some ⟨Ab, 0, none⟩))
    (ih : ∀ A w, A.defers = [] → Sx c (j + 1) A.tmps → SF c w → WgLive 81 c.L.Wg w → (Hs c cs).Spawns ((Hs c cs).FinS (AWs c cs)) r [] (G (b32.at A headT) cs) w)
    (hF : SF2 c o Ib Ab j w) (hl : WgLive 81 c.L.Wg w) :
    GSc c ((Hs c cs).AtGoS j ((Hs c cs).Spawns ((Hs c cs).FinS (AWs c cs)) r)) 3 o (G (b32.at A (.inRegion q6 [] :: .code (.region 7 q7 false) :: restT)) cs) w := by
  have hs := hS.sz
  have hn := K.hn
  refine GoesO.ctl rfl (fun w => stepG_region_end) ?_
  refine GoesO.ctl rfl (fun w => stepG_region) ?_
  rw [zq7, range2]
  refine GoesO.pureS (v := .func (.func 52) #[] #[A.eval (.tmp 6), A.eval (.tmp 3), A.eval (.tmp 5), A.eval (.tmp 7), A.eval (.tmp 8)]) (oo := q7.getD 0 default) rfl rfl (fun w₁ h₁ => let r := mkf (w := w₁) (a := A) (o := q7.getD 0 default) rfl; ⟨r.1, evn0 r.2⟩) ?_
  have e20 : (Act.put A (q7.getD 0 default).dst (.func (.func 52) #[] #[A.eval (.tmp 6), A.eval (.tmp 3), A.eval (.tmp 5), A.eval (.tmp 7), A.eval (.tmp 8)])).eval (.tmp 20) = .func (.func 52) #[] #[.pointer (some ⟨c.L.Wg, 0, none⟩), .pointer (some ⟨c.Yb, 0, none⟩), .pointer (some ⟨c.Rb, 0, none⟩), .pointer (some ⟨Ib, 0, none⟩), .pointer (some ⟨Ab, 0, none⟩)] := by
    show (A.tmps.setIfInBounds 20 _).getD 20 undef = _
    rw [getD_set _ _ _ _ (by omega), if_pos rfl]
    have q1 : A.eval (.tmp 6) = _ := hS.t6
    have q2 : A.eval (.tmp 3) = _ := hS.t3
    have q3 : A.eval (.tmp 5) = _ := hS.t5
    have q4 : A.eval (.tmp 7) = _ := h7
    have q5 : A.eval (.tmp 8) = _ := h8
    rw [q1, q2, q3, q4, q5]
  have hS2 : Sx c j (Act.put A (q7.getD 0 default).dst (.func (.func 52) #[] #[A.eval (.tmp 6), A.eval (.tmp 3), A.eval (.tmp 5), A.eval (.tmp 7), A.eval (.tmp 8)])).tmps := hS.set _ (by decide) (by decide)
  have hA2 : (Act.put A (q7.getD 0 default).dst (.func (.func 52) #[] #[A.eval (.tmp 6), A.eval (.tmp 3), A.eval (.tmp 5), A.eval (.tmp 7), A.eval (.tmp 8)])).defers = [] := hA
  generalize Act.put A (q7.getD 0 default).dst (.func (.func 52) #[] #[A.eval (.tmp 6), A.eval (.tmp 3), A.eval (.tmp 5), A.eval (.tmp 7), A.eval (.tmp 8)]) = A2 at e20 hS2 hA2 ⊢
  refine GoesO.stop fun w₁ r₁ => ?_
  have hF1 := hF.rely K r₁
  have hl1 := r₁.live hl
  obtain ⟨g1, g2⟩ := gosp (w := w₁) (a := A2) (o := q7.getD 1 default) (x := .tmp 20) rfl e20
  have hst := stepG_spawn (main := true) (b := b32) (k := restT) (cs := cs) (rest := []) (ops := q7) (i := 1) (o := q7.getD 1 default) (a := A2) rfl rfl bk32 g1 (f := .func 52) rfl
  have hls : listed Try.prog b32.fn A2 (q7.getD 1 default) w₁ = #[] := by unfold listed; rw [g2]; exact seen_none _ _
  rw [hls] at hst
  refine ⟨rfl, _, _, hst, rfl, fun hpay hlive hz => ?_, ?_⟩
  · have hrow : RowV (c.wc j Ib Ab) 0 (.slice none 0 0) o w₁ := ⟨World.ownsRow_nil _ _ _ _, fun g hg => by simp [Value.ownBlock] at hg⟩
    have := works52 (K.wc (i := j) (Ib := Ib) (Ab := Ab) (by omega)) (hF1.wk hl1) hz hrow
    exact ⟨_, this.stop_mono fun o g w x => ⟨x.1, x.2⟩⟩
  · obtain ⟨S, hSS⟩ := spawns_is (H := Hs c cs) ((Hs c cs).FinS (AWs c cs)) ⟨_, fun o g w => Iff.rfl⟩ r
    rw [hSS]
    have hs2 := hS2.sz
    have d1 : (q7.getD 1 default).dst = none := rfl
    rw [d1]
    show ∃ m, GSc c S m [] (G (b32.at A2 (.inRegion q7 [] :: restT)) cs) w₁
    have hS3 : Sx c j (A2.tmps.setIfInBounds 21 (.int .i64 ((j + 1 : Nat) : Int))) := hS2.set _ (by decide) (by decide)
    have hs3 := hS3.sz
    have hS4 : Sx c (j + 1) ((A2.tmps.setIfInBounds 21 (.int .i64 ((j + 1 : Nat) : Int))).setIfInBounds 14 (.int .i64 ((j + 1 : Nat) : Int))) := by
      refine ⟨by simpa using hs3, ?_, ?_, ?_, ?_, ?_, ?_⟩
      · rw [getD_set _ _ _ _ (by omega), if_neg (by omega)]; exact hS3.t3
      · rw [getD_set _ _ _ _ (by omega), if_neg (by omega)]; exact hS3.t5
      · rw [getD_set _ _ _ _ (by omega), if_neg (by omega)]; exact hS3.t6
      · rw [getD_set _ _ _ _ (by omega), if_neg (by omega)]; exact hS3.t12
      · rw [getD_set _ _ _ _ (by omega), if_neg (by omega)]; exact hS3.t13
      · rw [getD_set _ _ _ _ (by omega), if_pos rfl]
    obtain ⟨m, hm⟩ := (hSS _ _ _).1 (ih ((A2.put (q8.getD 0 default).dst (.int .i64 ((j + 1 : Nat) : Int))).put (q8.getD 1 default).dst (.int .i64 ((j + 1 : Nat) : Int))) w₁ hA2 hS4 hF1.sf hl1)
    refine ⟨m + 7, ?_⟩
    refine GoesO.ctl rfl (fun w => stepG_region_end) ?_
    refine GoesO.ctl rfl (fun w => stepG_inBlock) ?_
    refine GoesO.ctl rfl (fun w => stepG_region) ?_
    rw [zq8, range2]
    refine GoesO.pureS (v := .int .i64 ((j + 1 : Nat) : Int)) (oo := q8.getD 0 default) rfl rfl (fun w₁ h₁ => let r := inc_run (w := w₁) (a := A2) (o := q8.getD 0 default) (x := .tmp 14) rfl hS2.t14 (by omega); ⟨r.1, evn0 r.2⟩) ?_
    have e21 : (Act.put A2 (q8.getD 0 default).dst (.int .i64 ((j + 1 : Nat) : Int))).eval (.tmp 21) = .int .i64 ((j + 1 : Nat) : Int) := by
      show (A2.tmps.setIfInBounds 21 _).getD 21 undef = _
      rw [getD_set _ _ _ _ (by omega), if_pos rfl]
    refine GoesO.pureS (v := .int .i64 ((j + 1 : Nat) : Int)) (oo := q8.getD 1 default) rfl rfl (fun w₁ h₁ => ?_) ?_
    · have r := mv_run (w := w₁) (a := Act.put A2 (q8.getD 0 default).dst (.int .i64 ((j + 1 : Nat) : Int))) (o := q8.getD 1 default) (x := .tmp 21) rfl
      rw [e21] at r
      exact ⟨r.1, evn0 r.2⟩
    refine GoesO.ctl rfl (fun w => stepG_region_end) ?_
    refine GoesO.ctl rfl (fun w => stepG_inLoop) ?_
    exact hm

set_option maxRecDepth 10000 in
set_option maxHeartbeats 1000000 in
/-- ████ All the workers are started. ████ -/
theorem spawns_walk (K : CSOk c) : ∀ r j, j + r = c.L.n → ∀ (A : Act) (w : World), A.defers = [] → Sx c j A.tmps → SF c w → WgLive 81 c.L.Wg w → (Hs c cs).Spawns ((Hs c cs).FinS (AWs c cs)) r [] (G (b32.at A headT) cs) w
  | 0, j, hj, A, w, hA, hS, hF, hl => by
    obtain rfl : j = c.L.n := by omega
    exact fin_walk K hA hS hF hl
  | r + 1, j, hj, A, w, hA, hS, hF, hl => by
    have hn := K.hn
    have hjn : j < c.L.n := by omega
    have hs := hS.sz
    refine ⟨12 + 22, ?_⟩
    have ej : (Hs c cs).L.n - (r + 1) = j := by show c.L.n - (r + 1) = j; omega
    rw [ej]
    show GSc c ((Hs c cs).AtKdS j ((Hs c cs).Spawns ((Hs c cs).FinS (AWs c cs)) r)) (12 + 22) [] (G (b32.at A [.code lp32, .inLoop lp32, .inBlock 0, .code end32]) cs) w
    refine GoesO.ctl rfl (fun w => stepG_seq (x := .region 4 q4 false) (y := cr lp32)) ?_
    refine GoesO.ctl rfl (fun w => stepG_region) ?_
    rw [zq4, range1]
    refine GoesO.pureS (v := .bool (decide (j < c.L.n))) (oo := q4.getD 0 default) rfl rfl (fun w₁ h₁ => let r := lss_run (w := w₁) (a := A) (o := q4.getD 0 default) (x := .tmp 14) (y := .tmp 13) rfl hS.t14 hS.t13; ⟨r.1, evn0 r.2⟩) ?_
    refine GoesO.ctl rfl (fun w => stepG_region_end) ?_
    refine GoesO.ctl rfl (fun w => stepG_seq (x := .cond (.tmp 15) .skip (.exit 0)) (y := cr (cr lp32))) ?_
    have e15 : (Act.put A (q4.getD 0 default).dst (.bool (decide (j < c.L.n)))).eval (.tmp 15) = .bool true := by
      show (A.tmps.setIfInBounds 15 _).getD 15 undef = _
      rw [getD_set _ _ _ _ (by omega), if_pos rfl]
      simp [hjn]
    refine GoesO.ctl rfl (fun w => stepG_cond e15) ?_
    have hS1 : Sx c j (Act.put A (q4.getD 0 default).dst (.bool (decide (j < c.L.n)))).tmps := hS.set _ (by decide) (by decide)
    have hA1 : (Act.put A (q4.getD 0 default).dst (.bool (decide (j < c.L.n)))).defers = [] := hA
    clear e15
    generalize Act.put A (q4.getD 0 default).dst (.bool (decide (j < c.L.n))) = A1 at hS1 hA1 ⊢
    clear hS hA hs A
    have hs := hS1.sz
    refine GoesO.ctl rfl (fun w => stepG_skip) ?_
    refine GoesO.ctl rfl (fun w => stepG_seq (x := .block 1 in32) (y := .region 8 q8 false)) ?_
    refine GoesO.ctl rfl (fun w => stepG_block) ?_
    refine GoesO.ctl rfl (fun w => stepG_seq (x := .region 5 q5 false) (y := cr in32)) ?_
    refine GoesO.ctl rfl (fun w => stepG_region) ?_
    rw [zq5, range7]
    obtain ⟨ad, had⟩ := K.nzx (by omega)
    -- t16 := j
    refine GoesO.pureS (v := .int .i64 j) (oo := q5.getD 0 default) rfl rfl (fun w₁ h₁ => ?_) ?_
    · have r := mv_run (w := w₁) (a := A1) (o := q5.getD 0 default) (x := .tmp 14) rfl
      rw [show A1.eval (.tmp 14) = .int .i64 j from hS1.t14] at r
      exact ⟨r.1, evn0 r.2⟩
    have hS2 : Sx c j (Act.put A1 (q5.getD 0 default).dst (.int .i64 j)).tmps := hS1.set _ (by decide) (by decide)
    have hA2 : (Act.put A1 (q5.getD 0 default).dst (.int .i64 j)).defers = [] := hA1
    have e16 : (Act.put A1 (q5.getD 0 default).dst (.int .i64 j)).tmps.getD 16 undef = .int .i64 j := by
      show (A1.tmps.setIfInBounds 16 _).getD 16 undef = _
      rw [getD_set _ _ _ _ (by omega), if_pos rfl]
    generalize Act.put A1 (q5.getD 0 default).dst (.int .i64 j) = A2 at hS2 hA2 e16 ⊢
    clear hS1 hA1 hs A1
    have hs := hS2.sz
    -- t17 := the address of x's element
    refine GoesO.pureS (v := .pointer (some (ad.add j))) (oo := q5.getD 1 default) rfl rfl (fun w₁ h₁ => let r := ia_run (w := w₁) (a := A2) (o := q5.getD 1 default) (x := .tmp 12) (y := .tmp 14) (t := 45) (.inr rfl) rfl (show A2.eval (.tmp 12) = .slice (some ad) c.L.n c.cx from had ▸ hS2.t12) hS2.t14 hjn; ⟨r.1, evn0 r.2⟩) ?_
    have hS3 : Sx c j (Act.put A2 (q5.getD 1 default).dst (.pointer (some (ad.add j)))).tmps := hS2.set _ (by decide) (by decide)
    have hA3 : (Act.put A2 (q5.getD 1 default).dst (.pointer (some (ad.add j)))).defers = [] := hA2
    have f16 : (Act.put A2 (q5.getD 1 default).dst (.pointer (some (ad.add j)))).tmps.getD 16 undef = .int .i64 j := by
      show (A2.tmps.setIfInBounds 17 _).getD 16 undef = _
      rw [getD_set _ _ _ _ (by omega), if_neg (by omega)]; exact e16
    have e17 : (Act.put A2 (q5.getD 1 default).dst (.pointer (some (ad.add j)))).eval (.tmp 17) = .pointer (some (ad.add j)) := by
      show (A2.tmps.setIfInBounds 17 _).getD 17 undef = _
      rw [getD_set _ _ _ _ (by omega), if_pos rfl]
    generalize Act.put A2 (q5.getD 1 default).dst (.pointer (some (ad.add j))) = A3 at hS3 hA3 f16 e17 ⊢
    clear hS2 hA2 hs e16 A2
    have hs := hS3.sz
    -- t18 := x's element
    refine GoesO.pureS (v := .int .u64 (c.x j)) (oo := q5.getD 2 default) rfl rfl (fun w₁ h₁ => let r := ld52 (w := w₁) (a := A3) (o := q5.getD 2 default) (x := .tmp 17) rfl e17 ((hF.rely K h₁).xs j ad hjn had); ⟨r.1, evs0 r.2 (evs_low (by rw [addBlock]; exact K.B ad (Nat.zero_lt_of_lt hjn) had))⟩) ?_
    have hS4 : Sx c j (Act.put A3 (q5.getD 2 default).dst (.int .u64 (c.x j))).tmps := hS3.set _ (by decide) (by decide)
    have hA4 : (Act.put A3 (q5.getD 2 default).dst (.int .u64 (c.x j))).defers = [] := hA3
    have g16 : (Act.put A3 (q5.getD 2 default).dst (.int .u64 (c.x j))).tmps.getD 16 undef = .int .i64 j := by
      show (A3.tmps.setIfInBounds 18 _).getD 16 undef = _
      rw [getD_set _ _ _ _ (by omega), if_neg (by omega)]; exact f16
    have g18 : (Act.put A3 (q5.getD 2 default).dst (.int .u64 (c.x j))).tmps.getD 18 undef = .int .u64 (c.x j) := by
      show (A3.tmps.setIfInBounds 18 _).getD 18 undef = _
      rw [getD_set _ _ _ _ (by omega), if_pos rfl]
    generalize Act.put A3 (q5.getD 2 default).dst (.int .u64 (c.x j)) = A4 at hS4 hA4 g16 g18 ⊢
    clear hS3 hA3 hs f16 e17 A3
    have hs := hS4.sz
    -- the two variables
    refine GoesO.op (oo := q5.getD 3 default) rfl rfl bk32 fun w₁ h₁ => ?_
    obtain ⟨a1, a2⟩ := al3 (w := w₁) (a := A4) (o := q5.getD 3 default) rfl
    obtain ⟨b1, b2, b3⟩ := do_alloc (o := []) K (hF.rely K h₁) (.cells #[.int .i64 0] 3)
    refine ⟨_, _, _, .inl a1, b1, fun e he => by have := mem_listed he; rw [a2] at this; simp at this, ?_⟩
    have hl2 := b3 (h₁.live hl)
    have hIb : (w₁.alloc (.cells #[.int .i64 0] 3)).heap[w₁.heap.size]? = some (.cells #[.int .i64 0] 3) := heap_alloc_new _ _
    have hNI : c.L.N ≤ w₁.heap.size := Nat.le_trans hF.sz h₁.size
    have hS5 : Sx c j (Act.put A4 (q5.getD 3 default).dst (.pointer (some ⟨w₁.heap.size, 0, none⟩))).tmps := hS4.set _ (by decide) (by decide)
    have hA5 : (Act.put A4 (q5.getD 3 default).dst (.pointer (some ⟨w₁.heap.size, 0, none⟩))).defers = [] := hA4
    have k16 : (Act.put A4 (q5.getD 3 default).dst (.pointer (some ⟨w₁.heap.size, 0, none⟩))).tmps.getD 16 undef = .int .i64 j := by
      show (A4.tmps.setIfInBounds 7 _).getD 16 undef = _
      rw [getD_set _ _ _ _ (by omega), if_neg (by omega)]; exact g16
    have k18 : (Act.put A4 (q5.getD 3 default).dst (.pointer (some ⟨w₁.heap.size, 0, none⟩))).tmps.getD 18 undef = .int .u64 (c.x j) := by
      show (A4.tmps.setIfInBounds 7 _).getD 18 undef = _
      rw [getD_set _ _ _ _ (by omega), if_neg (by omega)]; exact g18
    have k7 : (Act.put A4 (q5.getD 3 default).dst (.pointer (some ⟨w₁.heap.size, 0, none⟩))).tmps.getD 7 undef = .pointer (some ⟨w₁.heap.size, 0, none⟩) := by
      show (A4.tmps.setIfInBounds 7 _).getD 7 undef = _
      rw [getD_set _ _ _ _ (by omega), if_pos rfl]
    generalize Act.put A4 (q5.getD 3 default).dst (.pointer (some ⟨w₁.heap.size, 0, none⟩)) = A5 at hS5 hA5 k16 k18 k7 ⊢
    generalize w₁.alloc (.cells #[.int .i64 0] 3) = w2 at b2 hl2 hIb ⊢
    generalize w₁.heap.size = Ib at hIb hNI k7 ⊢
    clear hS4 hA4 hs g16 g18 a1 a2 b1 b3 h₁ w₁ hF hl A4
    have hs := hS5.sz
    refine GoesO.op (oo := q5.getD 4 default) rfl rfl bk32 fun w₃ h₃ => ?_
    obtain ⟨a1, a2⟩ := al52 (w := w₃) (a := A5) (o := q5.getD 4 default) rfl
    obtain ⟨b1, b2', b3⟩ := do_alloc (o := [Ib]) K (b2.rely K h₃) (.cells #[.int .u64 0] 52)
    refine ⟨_, _, _, .inl a1, b1, fun e he => by have := mem_listed he; rw [a2] at this; simp at this, ?_⟩
    have hl3 := b3 (h₃.live hl2)
    have hIb3 := (h₃.own Ib (by simp)).trans hIb
    have hltI : Ib < w₃.heap.size := (Array.getElem?_eq_some_iff.1 hIb3).1
    have hIb4 : (w₃.alloc (.cells #[.int .u64 0] 52)).heap[Ib]? = some (.cells #[.int .i64 0] 3) := (heap_alloc_old _ _ _ hltI).trans hIb3
    have hAb4 : (w₃.alloc (.cells #[.int .u64 0] 52)).heap[w₃.heap.size]? = some (.cells #[.int .u64 0] 52) := heap_alloc_new _ _
    have hNA : c.L.N ≤ w₃.heap.size := by omega
    have hIA : Ib ≠ w₃.heap.size := by omega
    have hS6 : Sx c j (Act.put A5 (q5.getD 4 default).dst (.pointer (some ⟨w₃.heap.size, 0, none⟩))).tmps := hS5.set _ (by decide) (by decide)
    have hA6 : (Act.put A5 (q5.getD 4 default).dst (.pointer (some ⟨w₃.heap.size, 0, none⟩))).defers = [] := hA5
    have l16 : (Act.put A5 (q5.getD 4 default).dst (.pointer (some ⟨w₃.heap.size, 0, none⟩))).tmps.getD 16 undef = .int .i64 j := by
      show (A5.tmps.setIfInBounds 8 _).getD 16 undef = _
      rw [getD_set _ _ _ _ (by omega), if_neg (by omega)]; exact k16
    have l18 : (Act.put A5 (q5.getD 4 default).dst (.pointer (some ⟨w₃.heap.size, 0, none⟩))).tmps.getD 18 undef = .int .u64 (c.x j) := by
      show (A5.tmps.setIfInBounds 8 _).getD 18 undef = _
      rw [getD_set _ _ _ _ (by omega), if_neg (by omega)]; exact k18
    have l7 : (Act.put A5 (q5.getD 4 default).dst (.pointer (some ⟨w₃.heap.size, 0, none⟩))).tmps.getD 7 undef = .pointer (some ⟨Ib, 0, none⟩) := by
      show (A5.tmps.setIfInBounds 8 _).getD 7 undef = _
      rw [getD_set _ _ _ _ (by omega), if_neg (by omega)]; exact k7
    have l8 : (Act.put A5 (q5.getD 4 default).dst (.pointer (some ⟨w₃.heap.size, 0, none⟩))).tmps.getD 8 undef = .pointer (some ⟨w₃.heap.size, 0, none⟩) := by
      show (A5.tmps.setIfInBounds 8 _).getD 8 undef = _
      rw [getD_set _ _ _ _ (by omega), if_pos rfl]
    generalize Act.put A5 (q5.getD 4 default).dst (.pointer (some ⟨w₃.heap.size, 0, none⟩)) = A6 at hS6 hA6 l16 l18 l7 l8 ⊢
    generalize w₃.alloc (.cells #[.int .u64 0] 52) = w4 at b2' hl3 hIb4 hAb4 ⊢
    generalize w₃.heap.size = Ab at hAb4 hNA hIA l8 ⊢
    clear hS5 hA5 hs k16 k18 k7 a1 a2 b1 b3 h₃ w₃ b2 hl2 hIb hIb3 hltI w2 A5
    have hs := hS6.sz
    have memI : Ib ∈ [Ab, Ib] := by simp
    have memA : Ab ∈ [Ab, Ib] := by simp
    refine GoesO.op (oo := q5.getD 5 default) rfl rfl bk32 fun w₅ h₅ => ?_
    have hIb5 := (h₅.own Ib memI).trans hIb4
    have hAb5 := (h₅.own Ab memA).trans hAb4
    obtain ⟨a1, a2⟩ := st3 (w := w₅) (a := A6) (o := q5.getD 5 default) (x := .tmp 7) (y := .tmp 16) rfl l7 l16 (one_cell hIb5).1 (one_cell hIb5).2
    obtain ⟨b1, b2, b3⟩ := do_own (o := [Ab, Ib]) K (b2'.rely K h₅) memI hNI (.int .i64 j)
    refine ⟨undef, _, _, .inr ⟨a1, rfl⟩, b1, fun e he => by have := mem_listed he; rw [a2] at this; rw [single_ev this]; exact evs_own memI, ?_⟩
    have hl4 := b3 (h₅.live hl3)
    have hIb6 := one_set hIb5 (.int .i64 j)
    have hAb6 := ((aside_setCell w₅ ⟨Ib, 0, none⟩ (.int .i64 j)).block Ab (Ne.symm hIA)).trans hAb5
    have d5 : (q5.getD 5 default).dst = none := rfl
    rw [d5]
    show GSc c _ _ [Ab, Ib] (G (b32.at A6 _) cs) _
    generalize w₅.setCell ⟨Ib, 0, none⟩ (.int .i64 j) = w6 at b2 hl4 hIb6 hAb6 ⊢
    clear a1 a2 b1 b3 h₅ w₅ b2' hl3 hIb4 hAb4 hIb5 hAb5
    refine GoesO.op (oo := q5.getD 6 default) rfl rfl bk32 fun w₇ h₇ => ?_
    have hIb7 := (h₇.own Ib memI).trans hIb6
    have hAb7 := (h₇.own Ab memA).trans hAb6
    obtain ⟨a1, a2⟩ := st52 (w := w₇) (a := A6) (o := q5.getD 6 default) (x := .tmp 8) (y := .tmp 18) rfl l8 l18 (one_cell hAb7).1 (one_cell hAb7).2
    obtain ⟨b1, b2', b3⟩ := do_own (o := [Ab, Ib]) K (b2.rely K h₇) memA hNA (.int .u64 (c.x j))
    refine ⟨undef, _, _, .inr ⟨a1, rfl⟩, b1, fun e he => by have := mem_listed he; rw [a2] at this; rw [single_ev this]; exact evs_own memA, ?_⟩
    have hl5 := b3 (h₇.live hl4)
    have hAb8 := one_set hAb7 (.int .u64 (c.x j))
    have hIb8 := ((aside_setCell w₇ ⟨Ab, 0, none⟩ (.int .u64 (c.x j))).block Ib hIA).trans hIb7
    have d6 : (q5.getD 6 default).dst = none := rfl
    rw [d6]
    show GSc c _ _ [Ab, Ib] (G (b32.at A6 _) cs) _
    generalize w₇.setCell ⟨Ab, 0, none⟩ (.int .u64 (c.x j)) = w8 at b2' hl5 hIb8 hAb8 ⊢
    clear a1 a2 b1 b3 h₇ w₇ b2 hl4 hIb6 hAb6 hIb7 hAb7
    have hF2 : SF2 c [Ab, Ib] Ib Ab j w8 := ⟨b2', memI, memA, fun b hb => by rcases List.mem_cons.1 hb with rfl | hb; exact hNA; rw [List.mem_singleton] at hb; rw [hb]; exact hNI, (one_cell hIb8).1, (one_cell hAb8).1⟩
    refine GoesO.ctl rfl (fun w => stepG_region_end) ?_
    refine GoesO.ctl rfl (fun w => stepG_seq (x := .region 6 q6 false) (y := .region 7 q7 false)) ?_
    refine GoesO.ctl rfl (fun w => stepG_region) ?_
    rw [zq6, range1]
    refine GoesO.step rfl fun w₉ h₉ => ?_
    refine goes_call (o := q6.getD 0 default) (args := #[.tmp 6, .const (.int .i64 1)]) (ats := #[81, 3]) (fn := addFn Try.link) (c := body_add Try.link) rfl rfl bk32 rfl Try.wgLib.f_add (nm_add Try.link) rfl ⟨[Ab, Ib], ⟨.idle _, by simp⟩, ?_⟩
    have e1 : (#[.tmp 6, .const (.int .i64 1)] : Array Operand).map A6.eval = #[.pointer (some ⟨c.L.Wg, 0, none⟩), .int .i64 1] := by
      have q1 : A6.eval (.tmp 6) = .pointer (some ⟨c.L.Wg, 0, none⟩) := hS6.t6
      have q2 : A6.eval (.const (.int .i64 1)) = .int .i64 1 := rfl
      simp [q1, q2]
    rw [e1]
    have e2 : ((addFn Try.link).ntmps - (#[.pointer (some ⟨c.L.Wg, 0, none⟩), .int .i64 1] : Array Value).size) = 115 := rfl
    rw [e2, app117]
    have hS7 : Sx c j (A6.put ((q6[0]?).bind (·.dst)) (.tuple #[])).tmps := hS6.set _ (by decide) (by decide)
    have m7 : (A6.put ((q6[0]?).bind (·.dst)) (.tuple #[])).tmps.getD 7 undef = .pointer (some ⟨Ib, 0, none⟩) := by
      show (A6.tmps.setIfInBounds 19 _).getD 7 undef = _
      rw [getD_set _ _ _ _ (by omega), if_neg (by omega)]; exact l7
    have m8 : (A6.put ((q6[0]?).bind (·.dst)) (.tuple #[])).tmps.getD 8 undef = .pointer (some ⟨Ab, 0, none⟩) := by
      show (A6.tmps.setIfInBounds 19 _).getD 8 undef = _
      rw [getD_set _ _ _ _ (by omega), if_neg (by omega)]; exact l8
    exact addPosG (L := Try.link) (P := Try.prog) (Y := c.L) (X := c.X) (F := SF2 c [Ab, Ib] Ib Ab j) (Fin := FinS c) (Anc := AncS c cs) (j := j) (Next := (Hs c cs).Spawns ((Hs c cs).FinS (AWs c cs)) r) (b₀ := b32) (a₀ := A6) (ops₀ := q6) (i₀ := 0) (rest₀ := []) (k₀ := .code (.region 7 q7 false) :: restT) (cs := cs) (mT := 3) Try.wgLib
      (fun a b r h => h.rely K r) (fun a b r h => h.aside K r) (fun w hF hl => go_walk K hj (by exact hA6) hS7 m7 m8 (fun A w h1 h2 h3 h4 => spawns_walk K r (j + 1) (by omega) A w h1 h2 h3 h4) hF hl) w₉ ⟨hF2.rely K h₉, h₉.live hl5⟩
end
end

section
open Go.Conc Go.ConcN Go.RowKit Go.Conc.Lib Go.ConcR.Gen Go.ConcN.Gen
open Go.ConcR (KK wgBlock WgAt stA smA rd wr Payload ofEvent_cell)

section
variable {c : CS} {w : World} {cs : List Frame}
set_option maxRecDepth 10000 in
theorem start_walk (K : CSOk c) {T : Array Value} (hs : T.size = 24) (h0 : T.getD 0 undef = .slice c.xa c.L.n c.cx) (h3 : T.getD 3 undef = .pointer (some ⟨c.Yb, 0, none⟩)) (h5 : T.getD 5 undef = .pointer (some ⟨c.Rb, 0, none⟩)) (h6 : T.getD 6 undef = .pointer (some ⟨c.L.Wg, 0, none⟩))
    (hF : SF c w) (hl : WgLive 81 c.L.Wg w) : (Hs c cs).Spawns ((Hs c cs).FinS (AWs c cs)) c.L.n [] (G (b32.at ⟨T, []⟩ [.code tail32]) cs) w := by
  obtain ⟨S, hSS⟩ := spawns_is (H := Hs c cs) ((Hs c cs).FinS (AWs c cs)) ⟨_, fun o g w => Iff.rfl⟩ c.L.n
  rw [hSS]
  let A1 : Act := Act.put ⟨T, []⟩ (q3.getD 0 default).dst (.slice c.xa c.L.n c.cx)
  let A2 : Act := A1.put (q3.getD 1 default).dst (.int .i64 c.L.n)
  let A3 : Act := A2.put (q3.getD 2 default).dst (.int .i64 0)
  have z1 : A1.tmps.size = 24 := by show (T.setIfInBounds 12 _).size = 24; simpa using hs
  have z2 : A2.tmps.size = 24 := by show (A1.tmps.setIfInBounds 13 _).size = 24; simpa using z1
  have g1 : ∀ k, A1.tmps.getD k undef = if k = 12 then .slice c.xa c.L.n c.cx else T.getD k undef := fun k => getD_set T 12 k _ (by omega)
  have g2 : ∀ k, A2.tmps.getD k undef = if k = 13 then .int .i64 c.L.n else A1.tmps.getD k undef := fun k => getD_set A1.tmps 13 k _ (by omega)
  have g3 : ∀ k, A3.tmps.getD k undef = if k = 14 then .int .i64 0 else A2.tmps.getD k undef := fun k => getD_set A2.tmps 14 k _ (by omega)
  have hS : Sx c 0 A3.tmps := by
    refine ⟨by show (A2.tmps.setIfInBounds 14 _).size = 24; simpa using z2, ?_, ?_, ?_, ?_, ?_, ?_⟩
    · rw [g3, if_neg (by decide), g2, if_neg (by decide), g1, if_neg (by decide)]; exact h3
    · rw [g3, if_neg (by decide), g2, if_neg (by decide), g1, if_neg (by decide)]; exact h5
    · rw [g3, if_neg (by decide), g2, if_neg (by decide), g1, if_neg (by decide)]; exact h6
    · rw [g3, if_neg (by decide), g2, if_neg (by decide), g1, if_pos rfl]
    · rw [g3, if_neg (by decide), g2, if_pos rfl]
    · rw [g3, if_pos rfl]; rfl
  obtain ⟨m, hm⟩ := (hSS _ _ _).1 (spawns_walk K c.L.n 0 (by omega) A3 w rfl hS hF hl)
  refine ⟨m + 9, ?_⟩
  show GSc c S (m + 9) [] (G (b32.at ⟨T, []⟩ [.code tail32]) cs) w
  refine GoesO.ctl rfl (fun w => stepG_seq (x := .seq (.region 3 q3 false) (.block 0 (.loop lp32))) (y := end32)) ?_
  refine GoesO.ctl rfl (fun w => stepG_seq) ?_
  refine GoesO.ctl rfl (fun w => stepG_region) ?_
  rw [zq3, range3]
  refine GoesO.pureS (v := .slice c.xa c.L.n c.cx) (oo := q3.getD 0 default) rfl rfl (fun w₁ h₁ => ?_) ?_
  · have r := mv_run (w := w₁) (a := ⟨T, []⟩) (o := q3.getD 0 default) (x := .tmp 0) rfl
    rw [show (⟨T, []⟩ : Act).eval (.tmp 0) = _ from h0] at r
    exact ⟨r.1, evn0 r.2⟩
  refine GoesO.pureS (v := .int .i64 c.L.n) (oo := q3.getD 1 default) rfl rfl (fun w₁ h₁ => let r := len_run (w := w₁) (a := A1) (o := q3.getD 1 default) (x := .tmp 12) (p := c.xa) (l := c.L.n) (c := c.cx) rfl ((g1 12).trans (if_pos rfl)); ⟨r.1, evn0 r.2⟩) ?_
  refine GoesO.pureS (v := .int .i64 0) (oo := q3.getD 2 default) rfl rfl (fun w₁ h₁ => let r := mv_run (w := w₁) (a := A2) (o := q3.getD 2 default) (x := .const (.int .i64 0)) rfl; ⟨r.1, evn0 r.2⟩) ?_
  refine GoesO.ctl rfl (fun w => stepG_region_end) ?_
  refine GoesO.ctl rfl (fun w => stepG_block) ?_
  refine GoesO.ctl rfl (fun w => stepG_loop) ?_
  exact hm

/-- ████ THE PHASE OF impl.common. ████ -/
theorem common_phase (K : CSOk c) (hX : ∀ b, c.X b → b < c.L.N ∧ b ≠ c.L.C) (hW : c.X c.L.Wg) {gs : Array Goroutine} {t : Trace} {q : Nat → Nat} {sl : Option (Nat × Nat)} (hFr : Fr Try.prog c.X gs w t q) {T : Array Value} (hg : gs[0]? = some (G (b32.at ⟨T, []⟩ [.code tail32]) cs))
    (hs : T.size = 24) (h0 : T.getD 0 undef = .slice c.xa c.L.n c.cx) (h3 : T.getD 3 undef = .pointer (some ⟨c.Yb, 0, none⟩)) (h5 : T.getD 5 undef = .pointer (some ⟨c.Rb, 0, none⟩)) (h6 : T.getD 6 undef = .pointer (some ⟨c.L.Wg, 0, none⟩))
    (hF : SF c w) (hwg : WgAt 81 c.L.Wg w 0 0) (hz : ∀ i, i < c.L.n → w.cell? ⟨c.L.C, i, none⟩ = some (.slice none 0 0)) :
    ∃ (N : Nat) (gs' : Array Goroutine) (w' : World) (sl' : Option (Nat × Nat)) (t' : Trace) (q' : Nat → Nat) (A : Act) (O : Nat → List Nat) (o0 : List Nat),
      runNT Try.prog N (crowd gs w sl) t = (.next (crowd gs' w' sl'), t') ∧ gs'[0]? = some (G (b32.at A [.inRegion q9 [], .code (.seq (.region 10 q10 false) .ret)]) cs) ∧ A.defers = [] ∧ Sx c c.L.n A.tmps ∧ SF c w' ∧ Fr Try.prog c.X gs' w' t' q' ∧ WgAt 81 c.L.Wg w' 0 0 ∧
      Lists c.L c.L.n O o0 w'.heap.size ∧ ∀ i, i < c.L.n → FinC (c.wc i 0 0) (O i) w' := by
  obtain ⟨N, gs', a', w', sl', t', q', O, o0, r1, r2, r3, ⟨A, rfl, a1, a2, a3⟩, r5, r6, r7, r8, r9, r10⟩ := phase_fr (H := Hs c cs) (AW := AWs c cs) (sl := sl) (phOk K hX) hW hFr hg hF.sz hwg hF.pay hz (start_walk K hs h0 h3 h5 h6 hF ⟨_, _, hwg⟩)
  exact ⟨N, gs', w', sl', t', q', A, O, o0, r1, r2, a1, a2, a3, r5, r8, r9, r10⟩
end
end
end Go.Proofs.Ytnifgfnhcjhodaa
