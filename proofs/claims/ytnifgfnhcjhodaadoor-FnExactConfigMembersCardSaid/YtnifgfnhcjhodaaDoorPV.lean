/- XPV: several texts in one. Conditions: each lemma's own. -/
import Derived.Test.YtnifgfnhcjhodaaDoorGX
import Derived.Conc.AppendWalk
import Derived.OwnWalk




namespace Go.Proofs.YtnifgfnhcjhodaaDoor
set_option linter.unusedVariables false
set_option linter.unusedSimpArgs false
section
open Go.Conc Go.ConcN Go.RowKit Go.Conc.Lib Go.ConcR.Gen Go.ConcN.Gen
open Go.ConcR (KK wgBlock WgAt stA smA rd wr Payload)

@[go_sem] theorem ev_store_slice (P : Program) (w : World) (es : Array Event) (a : Addr) (m : Mode) (b : Option Addr) (l c : Nat) : (store a (.slice b l c) m).events P w es = storedEv P w es a (.slice b l c) m := events_store P w es a _ m rfl

theorem crewInf : (Tryd.prog.info? 48).map (fun i => (i.zero, i.size, i.bytes)) = some (some (.int .u64 0), 1, 8) := by kernel_rfl

section
variable {a : Act} {w : World} {o : Oper} {x y : Operand} {ad : Addr}

theorem ld48 {v : Value} (h : o.op = .load 59 x) (hx : a.eval x = .pointer (some ad)) (hc : w.cell? ad = some v) : (execOp a.eval o).run Tryd.prog w = .ok (.value v) w ∧ (execOp a.eval o).events Tryd.prog w #[] = #[⟨.cell ad, false, false⟩] := by (constructor <;> unfold execOp <;> simp only [h, hx] <;> simp [go_sem, hc])
theorem ld45 {v : Value} (h : o.op = .load 39 x) (hx : a.eval x = .pointer (some ad)) (hc : w.cell? ad = some v) : (execOp a.eval o).run Tryd.prog w = .ok (.value v) w ∧ (execOp a.eval o).events Tryd.prog w #[] = #[⟨.cell ad, false, false⟩] := by (constructor <;> unfold execOp <;> simp only [h, hx] <;> simp [go_sem, hc])
theorem ld44 {v : Value} (h : o.op = .load 38 x) (hx : a.eval x = .pointer (some ad)) (hc : w.cell? ad = some v) : (execOp a.eval o).run Tryd.prog w = .ok (.value v) w ∧ (execOp a.eval o).events Tryd.prog w #[] = #[⟨.cell ad, false, false⟩] := by (constructor <;> unfold execOp <;> simp only [h, hx] <;> simp [go_sem, hc])
theorem ld3 {v : Value} (h : o.op = .load 3 x) (hx : a.eval x = .pointer (some ad)) (hc : w.cell? ad = some v) : (execOp a.eval o).run Tryd.prog w = .ok (.value v) w ∧ (execOp a.eval o).events Tryd.prog w #[] = #[⟨.cell ad, false, false⟩] := by (constructor <;> unfold execOp <;> simp only [h, hx] <;> simp [go_sem, hc])
theorem ld52 {v : Value} (h : o.op = .load 48 x) (hx : a.eval x = .pointer (some ad)) (hc : w.cell? ad = some v) : (execOp a.eval o).run Tryd.prog w = .ok (.value v) w ∧ (execOp a.eval o).events Tryd.prog w #[] = #[⟨.cell ad, false, false⟩] := by (constructor <;> unfold execOp <;> simp only [h, hx] <;> simp [go_sem, hc])

theorem mv_run (h : o.op = .move x) : (execOp a.eval o).run Tryd.prog w = .ok (.value (a.eval x)) w ∧ (execOp a.eval o).events Tryd.prog w #[] = #[] := by
  constructor <;> unfold execOp <;> simp only [h] <;> simp [go_sem]
theorem as_run (h : o.op = .assign x) : (execOp a.eval o).run Tryd.prog w = .ok (.value (a.eval x)) w ∧ (execOp a.eval o).events Tryd.prog w #[] = #[] := by
  constructor <;> unfold execOp <;> simp only [h] <;> simp [go_sem]
theorem and_run {p q : Int} (h : o.op = .binOp .and 48 x y 48) (hx : a.eval x = .int .u64 p) (hy : a.eval y = .int .u64 q) :
    (execOp a.eval o).run Tryd.prog w = .ok (.value (.int .u64 (bits .and .u64 p q))) w ∧ (execOp a.eval o).events Tryd.prog w #[] = #[] := by
  constructor <;> unfold execOp <;> simp only [h, hx, hy] <;> simp [go_sem]
theorem lss_run {p q : Nat} (h : o.op = .binOp .lss 3 x y 3) (hx : a.eval x = .int .i64 p) (hy : a.eval y = .int .i64 q) :
    (execOp a.eval o).run Tryd.prog w = .ok (.value (.bool (decide (p < q)))) w ∧ (execOp a.eval o).events Tryd.prog w #[] = #[] := by
  constructor <;> unfold execOp <;> simp only [h, hx, hy] <;> simp [go_sem]
theorem inc_run {p : Nat} (h : o.op = .binOp .add 3 x (.const (.int .i64 1)) 3) (hx : a.eval x = .int .i64 p) (hp : p < 2000000) :
    (execOp a.eval o).run Tryd.prog w = .ok (.value (.int .i64 ((p + 1 : Nat) : Int))) w ∧ (execOp a.eval o).events Tryd.prog w #[] = #[] := by
  have e : IntKind.wrap .i64 ((p : Int) + 1) = (p : Int) + 1 := by rw [IntKind.wrap_i64]; omega
  have hc : a.eval (.const (.int .i64 1)) = .int .i64 1 := rfl
  constructor <;> unfold execOp <;> simp only [h, hx, hc] <;> simp [go_sem, e]
theorem bs_run {p : Int} (h : o.op = .buildSlice 38 1 #[(0, x)]) (hx : a.eval x = .int .u64 p) :
    (execOp a.eval o).run Tryd.prog w = .ok (.value (.slice (some ⟨w.heap.size, 0, none⟩) 1 1)) (w.alloc (.cells #[.int .u64 p] 48)) ∧ (execOp a.eval o).events Tryd.prog w #[] = #[] := by
  constructor <;> unfold execOp <;> simp only [h, List.map_toArray, List.map_cons, List.map_nil, hx] <;> simp [go_sem]
theorem ia_run {t : TypeId} (ht : t = 59 ∨ t = 39) {l c j : Nat} (h : o.op = .indexAddr t x y) (hx : a.eval x = .slice (some ad) l c) (hy : a.eval y = .int .i64 j) (hj : j < l) :
    (execOp a.eval o).run Tryd.prog w = .ok (.value (.pointer (some (ad.add j)))) w ∧ (execOp a.eval o).events Tryd.prog w #[] = #[] := by
  have h1 : (j : Int) < (l : Int) := by omega
  have h0 : (0 : Int) ≤ (j : Int) := by omega
  rcases ht with rfl | rfl <;> (constructor <;> unfold execOp <;> simp only [h, hx, hy] <;> simp [go_sem, hj, h1, h0])
theorem len_run {p : Option Addr} {l c : Nat} (h : o.op = .call { callee := .builtin .len, args := #[x], argTypes := #[39] }) (hx : a.eval x = .slice p l c) :
    (execOp a.eval o).run Tryd.prog w = .ok (.value (.int .i64 l)) w ∧ (execOp a.eval o).events Tryd.prog w #[] = #[] := by
  constructor <;> unfold execOp <;> simp only [h, resolve, invoke, builtin, List.map_toArray, List.map_cons, List.map_nil, hx] <;> simp [go_sem, Builtin.len_]
theorem st44 {p : Option Addr} {l c : Nat} {u : Value} (h : o.op = .store 38 x y) (hx : a.eval x = .pointer (some ad)) (hy : a.eval y = .slice p l c) (hc : w.cell? ad = some u) (hz : w.frozen? ad = false) :
    (execOp a.eval o).run Tryd.prog w = .ok .skip (w.setCell ad (.slice p l c)) ∧ (execOp a.eval o).events Tryd.prog w #[] = #[⟨.cell ad, true, false⟩] := by
  constructor <;> unfold execOp <;> simp only [h, hx, hy] <;> simp [go_sem, stored, storedEv, hc, hz]
end

/-- A row depends on its own block alone. -/
theorem row_of_block {w w' : World} {base size n : Nat} {e : TypeId} {v : Value} {xs : List Value} (h : w.ownsRow base e size v n xs) (hb : ∀ g, v.ownBlock = some g → w'.heap[g]? = w.heap[g]?) : w'.ownsRow base e size v n xs := by
  refine ⟨h.1, ?_⟩
  rcases h.2 with hn | ⟨g, cap, cur, rfl, h1, h2, h3⟩
  · exact .inl hn
  · exact .inr ⟨g, cap, cur, rfl, h1, by rw [hb g (by simp [Value.ownBlock])]; exact h2, h3⟩
theorem row_slc {w : World} {base size n : Nat} {e : TypeId} {v : Value} {xs : List Value} (h : w.ownsRow base e size v n xs) : ∃ p l c, v = .slice p l c := by
  rcases h.2 with ⟨rfl, _⟩ | ⟨g, cap, cur, rfl, _⟩ <;> exact ⟨_, _, _, rfl⟩
theorem row_lt {w : World} {base size n g : Nat} {e : TypeId} {v : Value} {xs : List Value} (h : w.ownsRow base e size v n xs) (hg : v.ownBlock = some g) : g < w.heap.size := by
  rcases h.2 with ⟨rfl, _⟩ | ⟨g', cap, cur, rfl, _, h2, _⟩
  · simp [Value.ownBlock] at hg
  · simp [Value.ownBlock] at hg
    subst hg
    exact (Array.getElem?_eq_some_iff.1 h2).1

/-- One more element at the end of an owned row: the run and its list. -/
theorem app_run {a : Act} {w : World} {o : Oper} {x y : Operand} {v : Value} {n B : Nat} {xs : List Value} {z : Int} (h : o.op = .call { callee := .builtin .append, args := #[x, y], argTypes := #[38, 38] })
    (hx : a.eval x = v) (hy : a.eval y = .slice (some ⟨B, 0, none⟩) 1 1) (hrow : w.ownsRow 0 48 1 v n xs) (hB : w.heap[B]? = some (.cells #[.int .u64 z] 48)) (hne : v.ownBlock ≠ some B) (hn : n < 2000000) :
    ∃ v' w', (execOp a.eval o).run Tryd.prog w = .ok (.value v') w' ∧ w'.ownsRow 0 48 1 v' (n + 1) (xs ++ [.int .u64 z]) ∧
      ((v'.ownBlock = v.ownBlock ∧ w'.heap.size = w.heap.size ∧ (∀ b, some b ≠ v.ownBlock → w'.heap[b]? = w.heap[b]?)) ∨ (v'.ownBlock = some w.heap.size ∧ w'.heap.size = w.heap.size + 1 ∧ ∀ b, b < w.heap.size → w'.heap[b]? = w.heap[b]?)) ∧
      (∀ e ∈ (execOp a.eval o).events Tryd.prog w #[], (∃ ad, e.loc = .cell ad ∧ e.sync = false ∧ ((e.write = false ∧ ad.block = B) ∨ some ad.block = v.ownBlock)) ∨ e = ⟨.mark .noRoom, false, true⟩) ∧ w'.os = w.os ∧ w'.output = w.output := by
  obtain ⟨i, hi, hz0, hz1, hz2⟩ := info_parts crewInf
  have hnews : ∀ j u, [Value.int .u64 z][j]? = some u → w.cell? ((⟨B, 0, none⟩ : Addr).add j) = some u := by
    intro j u hj
    cases j with
    | zero =>
      simp at hj
      subst hj
      have e : (⟨B, 0, none⟩ : Addr).add 0 = ⟨B, 0, none⟩ := by unfold Addr.add; simp
      rw [e]
      simp [World.cell?, hB]
    | succ j => simp at hj
  have h1 : ∀ u ∈ [Value.int .u64 z], u.oneCell' = true := by simp [Value.oneCell']
  have h63 : n + 1 ≤ maxLen := by simp only [maxLen]; omega
  obtain ⟨v', w', hr, hown, hgr, _⟩ := run_append_own (P := Tryd.prog) w 0 38 o.type 48 i (.int .u64 0) 1 8 Tryd.underlying38 hi hz0 hz1 hz2 rfl (by omega) v n xs hrow ⟨B, 0, none⟩ 1 1 [.int .u64 z] rfl hnews h1 h63 (by omega) (Nat.zero_le _)
  refine ⟨v', w', ?_, hown, ?_, fun e he => ?_, hgr.os, hgr.output⟩
  · unfold execOp
    simp only [h, resolve, invoke, builtin, Sem.run_bind, Sem.run_pure, Result.andThen_ok, List.map_toArray, List.map_cons, List.map_nil, hx, hy, hr]
  · rcases hrow.2 with ⟨rfl, rfl⟩ | ⟨g, cap, cur, rfl, _, hg, hnc, hcm, hcs, htake⟩
    · have := run_append_nil (P := Tryd.prog) w 38 o.type 48 i (.int .u64 0) Tryd.underlying38 hi hz0 ⟨B, 0, none⟩ 1 1 [.int .u64 z] (by rw [hz1]; rfl) hnews (by omega) (by omega) (by rw [hz2]; omega)
      rw [hr] at this
      cases this
      exact .inr ⟨rfl, by simp, fun b hb => hgr.block b hb (by simp [Value.ownBlock])⟩
    · by_cases hroom : n + 1 ≤ cap
      · have := run_append_room (P := Tryd.prog) w 38 o.type 48 i Tryd.underlying38 hi g n cap cur hg ⟨B, 0, none⟩ 1 1 [.int .u64 z] (by rw [hz1]; rfl) hnews h1 hroom (by rw [hz1]; simp; omega)
        rw [hr] at this
        cases this
        refine .inl ⟨rfl, by simp [World.setRow], fun b hb => ?_⟩
        have hne' : g ≠ b := fun e => hb (by simp [Value.ownBlock, e])
        simp only [World.setRow]
        rw [Array.getElem?_modify, if_neg hne']
      · have hcells := hrow.cells (g := g) rfl
        have := run_append_grow (P := Tryd.prog) w 38 o.type 48 i (.int .u64 0) Tryd.underlying38 hi hz0 ⟨g, 0, none⟩ n cap xs (by rw [hz1]; exact hrow.1) hcells ⟨B, 0, none⟩ 1 1 [.int .u64 z] (by rw [hz1]; rfl) hnews (by omega) (by omega)
          (growslice_fits (by omega) (by rw [hz2]; omega))
        rw [hr] at this
        cases this
        exact .inr ⟨rfl, by simp, fun b hb => heap_alloc_old w.drew _ b hb⟩
  · rw [events_append_op x y 38 h hx hy] at he
    have hp : Pz (fun _ => False) w w := ⟨rfl, rfl, rfl, fun _ _ => rfl, fun _ h => h.elim⟩
    obtain ⟨w2, _, _, _, _, hg⟩ := ((fit_append #[38, 38] o.type #[v, .slice (some ⟨B, 0, none⟩) 1 1]).sim hp hr).2 fun _ _ _ => rfl
    have hge := (hg #[] e he).resolve_left (by simp)
    rcases events_append_where w 0 38 o.type 48 i (.int .u64 0) 1 8 Tryd.underlying38 hi hz0 hz1 hz2 v n xs hrow ⟨B, 0, none⟩ 1 1 [.int .u64 z] rfl hnews h1 h63 (by omega) e he with ⟨ad, a1, a2⟩ | ⟨m, rfl, hm⟩
    · left
      refine ⟨ad, a1, ?_, a2⟩
      rcases hge with ⟨a', _, _, _, hs⟩ | ⟨r, b1, _⟩ | b1 | ⟨f, b1⟩
      · exact hs
      · rw [a1] at b1; cases b1
      · rw [a1] at b1; cases b1
      · rw [a1] at b1; cases b1
    · right
      rw [hm]
end

section
open Go.Conc Go.ConcN Go.RowKit Go.Conc.Lib Go.ConcR.Gen Go.ConcN.Gen
open Go.ConcR (KK wgBlock WgAt stA smA rd wr Payload ofEvent_cell)

def cl : Code → Code | .seq a _ => a | .block _ c => c | .loop c => c | c => c
def cr : Code → Code | .seq _ b => b | c => c
def co : Code → Array Oper | .region _ o _ => o | _ => #[]
def b52 : Frame := baseD 42
noncomputable def body52 : Code := Tryd.f42.body.getD .skip
noncomputable def loop52 : Code := cl (cl (cr (cr body52)))
noncomputable def reg4 : Code := cr (cl (cl (cr (cr loop52))))
noncomputable def ops4 : Array Oper := co reg4
noncomputable def op4 (k : Nat) : Oper := ops4.getD k default
theorem size4 : ops4.size = 13 := rfl

/-- What a worker is told: the lay; where y, the rows, its i and its a lie; y's row; its number; its own crew. -/
structure WC where
  L : Lay
  X : Nat → Prop
  Yb : Nat
  Rb : Nat
  Ib : Nat
  Ab : Nat
  i : Nat
  ny : Nat
  cy : Nat
  ya : Option Addr
  y : Nat → Int
  a : Int
def WC.lowR (c : WC) (b : Nat) : Prop := b < c.L.N ∧ b ≠ c.L.Wg ∧ b ≠ c.L.C ∧ ¬ c.X b
structure WCOk (c : WC) : Prop where
  hL : LayOk c.L
  Y : c.lowR c.Yb
  R : c.lowR c.Rb
  A : ∀ ad, 0 < c.ny → c.ya = some ad → c.lowR ad.block
  nz : 0 < c.ny → ∃ ad, c.ya = some ad
  hi : c.i < c.L.n
  hny : c.ny < 2000000
structure WK (c : WC) (o : List Nat) (w : World) : Prop where
  yb : w.cell? ⟨c.Yb, 0, none⟩ = some (.slice c.ya c.ny c.cy)
  rb : w.cell? ⟨c.Rb, 0, none⟩ = some (.slice (some ⟨c.L.C, 0, none⟩) c.L.n c.L.n)
  ib : w.cell? ⟨c.Ib, 0, none⟩ = some (.int .i64 c.i)
  ab : w.cell? ⟨c.Ab, 0, none⟩ = some (.int .u64 c.a)
  ys : ∀ k ad, k < c.ny → c.ya = some ad → w.cell? (ad.add k) = some (.int .u64 (c.y k))
  oI : c.Ib ∈ o
  oA : c.Ab ∈ o
  oN : ∀ b ∈ o, c.L.N ≤ b
  live : WgLive 81 c.L.Wg w
  pay : PayAt c.L.C c.L.n w
def WC.v (c : WC) (k : Nat) : Value := .int .u64 (bits .and .u64 c.a (c.y k))
def WC.vals (c : WC) (j : Nat) : List Value := (List.range j).map c.v
theorem vals_succ (c : WC) (j : Nat) : c.vals (j + 1) = c.vals j ++ [c.v j] := by simp [WC.vals, List.range_succ]
structure RowV (c : WC) (j : Nat) (s : Value) (o : List Nat) (w : World) : Prop where
  own : w.ownsRow 0 48 1 s j (c.vals j)
  blk : ∀ g, s.ownBlock = some g → g ∈ o ∧ g ≠ c.Ib ∧ g ≠ c.Ab

section
variable {c : WC} {o o' : List Nat} {w w₁ w' : World} {j : Nat} {s : Value}
abbrev ROc (c : WC) := RO 81 c.L (some c.i)
abbrev DOc (c : WC) := DO c.L (some c.i)
abbrev EvOc (c : WC) (o : List Nat) := EvO c.L c.X (some c.i) o 0

theorem WK.low (K : WCOk c) (r : ROc c o w w₁) {b : Nat} (hb : c.lowR b) : w₁.heap[b]? = w.heap[b]? := r.low b hb.1 hb.2.1 hb.2.2.1
theorem WK.rely (K : WCOk c) (h : WK c o w) (r : ROc c o w w₁) : WK c o w₁ :=
  ⟨(World.cell?_of_block (r.low _ K.Y.1 K.Y.2.1 K.Y.2.2.1)).trans h.yb, (World.cell?_of_block (r.low _ K.R.1 K.R.2.1 K.R.2.2.1)).trans h.rb, (World.cell?_of_block (r.own _ h.oI)).trans h.ib, (World.cell?_of_block (r.own _ h.oA)).trans h.ab,
   fun k ad hk e => (World.cell?_of_block (a := ad.add k) (by rw [addBlock]; exact r.low _ (K.A ad (Nat.zero_lt_of_lt hk) e).1 (K.A ad (Nat.zero_lt_of_lt hk) e).2.1 (K.A ad (Nat.zero_lt_of_lt hk) e).2.2.1)).trans (h.ys k ad hk e), h.oI, h.oA, h.oN, r.live h.live, r.pay h.pay⟩
theorem RowV.rely (h : RowV c j s o w) (r : ROc c o w w₁) : RowV c j s o w₁ := ⟨row_of_block h.own fun g hg => r.own g (h.blk g hg).1, h.blk⟩
theorem WK.sizes (K : WCOk c) (h : WK c o w) : c.Yb < w.heap.size ∧ c.Rb < w.heap.size ∧ c.Ib < w.heap.size ∧ c.Ab < w.heap.size ∧ c.L.C < w.heap.size ∧ c.L.Wg < w.heap.size := by
  obtain ⟨cs, h1, _⟩ := h.pay
  obtain ⟨st, sm, h2⟩ := h.live
  exact ⟨World.block_lt_of_cell? w _ h.yb, World.block_lt_of_cell? w _ h.rb, World.block_lt_of_cell? w _ h.ib, World.block_lt_of_cell? w _ h.ab, (Array.getElem?_eq_some_iff.1 h1).1, (Array.getElem?_eq_some_iff.1 h2).1⟩
/-- It stands where only blocks of the row turn, or new ones come. -/
theorem WK.keep (K : WCOk c) (h : WK c o w) (ho : ∀ b ∈ o, b ∈ o') (hN : ∀ b ∈ o', c.L.N ≤ b) (hk : ∀ b, b < w.heap.size → (b < c.L.N ∧ b ≠ c.L.C) ∨ b = c.Ib ∨ b = c.Ab → w'.heap[b]? = w.heap[b]?) (hp : PayAt c.L.C c.L.n w → PayAt c.L.C c.L.n w') : WK c o' w' := by
  obtain ⟨s1, s2, s3, s4, s5, s6⟩ := h.sizes K
  obtain ⟨st, sm, h3⟩ := h.live
  refine ⟨(World.cell?_of_block (hk _ s1 (.inl ⟨K.Y.1, K.Y.2.2.1⟩))).trans h.yb, (World.cell?_of_block (hk _ s2 (.inl ⟨K.R.1, K.R.2.2.1⟩))).trans h.rb, (World.cell?_of_block (hk _ s3 (.inr (.inl rfl)))).trans h.ib, (World.cell?_of_block (hk _ s4 (.inr (.inr rfl)))).trans h.ab,
    fun k ad hk' e => (World.cell?_of_block (a := ad.add k) (hk _ (World.block_lt_of_cell? w _ (h.ys k ad hk' e)) (.inl (by rw [addBlock]; exact ⟨(K.A ad (Nat.zero_lt_of_lt hk') e).1, (K.A ad (Nat.zero_lt_of_lt hk') e).2.2.1⟩)))).trans (h.ys k ad hk' e), ho _ h.oI, ho _ h.oA, hN, ⟨st, sm, h3.of_block (hk _ s6 (.inl ⟨K.hL.hW, Ne.symm K.hL.ne⟩))⟩, hp h.pay⟩

theorem ev_low (K : WCOk c) {ad : Addr} (h : c.lowR ad.block) : EvOc c o ⟨.cell ad, false, false⟩ := by
  refine ⟨fun x hx => ⟨ad, ?_⟩, by simp, by simp, by simp⟩
  simp only [ofEvent_cell, MemAct.touch?, Option.some.injEq] at hx
  subst hx
  exact ⟨rfl, .inl ⟨rfl, .inr (.inr ⟨rfl, h.1, h.2.1, h.2.2.1, h.2.2.2⟩)⟩⟩
theorem ev_own {ad : Addr} {b : Bool} (h : ad.block ∈ o) : EvOc c o ⟨.cell ad, b, false⟩ := by
  refine ⟨fun x hx => ⟨ad, ?_⟩, by simp, by simp, by simp⟩
  simp only [ofEvent_cell, MemAct.touch?, Option.some.injEq] at hx
  subst hx
  exact ⟨rfl, .inl ⟨rfl, .inl h⟩⟩
theorem ev_ci {b : Bool} : EvOc c o ⟨.cell ⟨c.L.C, c.i, none⟩, b, false⟩ := by
  refine ⟨fun x hx => ⟨⟨c.L.C, c.i, none⟩, ?_⟩, by simp, by simp, by simp⟩
  simp only [ofEvent_cell, MemAct.touch?, Option.some.injEq] at hx
  subst hx
  exact ⟨rfl, .inl ⟨rfl, .inr (.inl ⟨c.i, rfl, rfl⟩)⟩⟩
theorem ev_room : EvOc c o ⟨.mark .noRoom, false, true⟩ := by
  refine ⟨fun x hx => ?_, by simp, by simp, by simp⟩
  simp [MemAct.ofEvent, MemAct.touch?] at hx
/-- A cell of the payload, there and not frozen. -/
theorem WK.ci (K : WCOk c) (h : WK c o w) : ∃ u, w.cell? ⟨c.L.C, c.i, none⟩ = some u ∧ w.frozen? ⟨c.L.C, c.i, none⟩ = false := by
  obtain ⟨arr, h1, h2⟩ := h.pay
  have := K.hi
  exact ⟨arr[c.i]'(by omega), by simp [World.cell?, h1, h2, this], by simp [World.frozen?, h1]⟩
/-- THE WRITE of its own cell. -/
theorem do_set (K : WCOk c) (h : WK c o w) (v : Value) : DOc c o o w (w.setCell ⟨c.L.C, c.i, none⟩ v) ∧ (w.setCell ⟨c.L.C, c.i, none⟩ v).cell? ⟨c.L.C, c.i, none⟩ = some v ∧ ∀ b, b ≠ c.L.C → (w.setCell ⟨c.L.C, c.i, none⟩ v).heap[b]? = w.heap[b]? := by
  have hA := aside_setCell w ⟨c.L.C, c.i, none⟩ v
  obtain ⟨arr, h1, h2⟩ := h.pay
  have hi := K.hi
  have hb : (w.setCell ⟨c.L.C, c.i, none⟩ v).heap[c.L.C]? = some (.cells (arr.setIfInBounds c.i v) Payload.ety) := by
    rw [setCell_eq_setRow w c.L.C c.i arr _ (0, 0) _ h1, setRow_heap w c.L.C _ _ _ _ h1]
  refine ⟨⟨.inl rfl, Nat.le_of_eq hA.size.symm, fun b hb => .inl hb, fun b _ _ hb => hA.block b hb, fun _ => ⟨_, hb, by simpa using h2⟩, fun i' hi' => ?_, hA.os, hA.output⟩, ?_, fun b hb => hA.block b hb⟩
  · have : c.i ≠ i' := fun e => hi' (by rw [e])
    simp [World.cell?, hb, h1, Array.getElem?_setIfInBounds_ne this]
  · simp [World.cell?, hb, h2, hi]
end

/-- What operation number k of the drawn region leaves. -/
def Vd (c : WC) (j : Nat) (s : Value) (B : Nat) (s' : Value) : Nat → Value
  | 0 => .slice (some ⟨c.L.C, 0, none⟩) c.L.n c.L.n
  | 1 => .int .i64 c.i
  | 2 => .slice (some ⟨c.L.C, 0, none⟩) c.L.n c.L.n
  | 3 => .int .i64 c.i
  | 4 => .pointer (some ⟨c.L.C, c.i, none⟩)
  | 5 => s
  | 6 => .int .u64 c.a
  | 7 => .int .u64 (c.y j)
  | 8 => c.v j
  | 9 => .slice (some ⟨B, 0, none⟩) 1 1
  | 10 => s'
  | 11 => .pointer (some ⟨c.L.C, c.i, none⟩)
  | _ => undef
/-- The slots that the region does not turn. -/
structure Fx (c : WC) (j : Nat) (t : Array Value) : Prop where
  sz : t.size = 26
  t2 : t.getD 2 undef = .pointer (some ⟨c.Rb, 0, none⟩)
  t3 : t.getD 3 undef = .pointer (some ⟨c.Ib, 0, none⟩)
  t4 : t.getD 4 undef = .pointer (some ⟨c.Ab, 0, none⟩)
  t7 : t.getD 7 undef = .slice c.ya c.ny c.cy
  t8 : t.getD 8 undef = .int .i64 c.ny
  t9 : t.getD 9 undef = .int .i64 j
theorem getD_set (t : Array Value) (d k : Nat) (v : Value) (h : d < t.size) : (t.setIfInBounds d v).getD k undef = if k = d then v else t.getD k undef := by
  simp only [Array.getD_eq_getD_getElem?]
  by_cases e : k = d
  · subst e; simp [Array.getElem?_setIfInBounds_self_of_lt h]
  · rw [Array.getElem?_setIfInBounds_ne (Ne.symm e), if_neg e]
theorem Fx.set {c : WC} {j : Nat} {t : Array Value} (h : Fx c j t) {d : Nat} (v : Value) (hd : 10 ≤ d) (hd' : d < 26) : Fx c j (t.setIfInBounds d v) := by
  have hs := h.sz
  refine ⟨by simpa using hs, ?_, ?_, ?_, ?_, ?_, ?_⟩ <;> rw [getD_set _ _ _ _ (by omega), if_neg (by omega)]
  all_goals first | exact h.t2 | exact h.t3 | exact h.t4 | exact h.t7 | exact h.t8 | exact h.t9

structure Dn (c : WC) (j : Nat) (ds : List Deferred) (s : Value) (B : Nat) (s' : Value) (l : Array Bool) (o : List Nat) (A : Act) (w : World) : Prop where
  ls : l.size = 13
  df : A.defers = ds
  fx : Fx c j A.tmps
  t6 : A.tmps.getD 6 undef = .int .u64 (c.y j)
  vs : ∀ k, k < 12 → l.getD k false = true → A.tmps.getD (13 + k) undef = Vd c j s B s' k
  wk : WK c o w
  mid : l.getD 9 false = true → l.getD 10 false = false → B ∈ o ∧ w.heap[B]? = some (.cells #[c.v j] 48) ∧ s.ownBlock ≠ some B
  new : l.getD 10 false = true → RowV c (j + 1) s' o w
  old : l.getD 10 false = false → RowV c j s o w
  c0 : l.getD 12 false = false → w.cell? ⟨c.L.C, c.i, none⟩ = some s
  c1 : l.getD 12 false = true → w.cell? ⟨c.L.C, c.i, none⟩ = some s'
  dc : l.getD 12 false = true → ∀ k, k < 12 → l.getD k false = true

theorem lget_set (l : Array Bool) (k d : Nat) (h : d < l.size) : (l.setIfInBounds d true).getD k false = if k = d then true else l.getD k false := by
  simp only [Array.getD_eq_getD_getElem?]
  by_cases e : k = d
  · subst e; simp [Array.getElem?_setIfInBounds_self_of_lt h]
  · rw [Array.getElem?_setIfInBounds_ne (Ne.symm e), if_neg e]
section
variable {c : WC} {j : Nat} {ds : List Deferred} {s s' : Value} {B : Nat} {l : Array Bool} {o : List Nat} {A : Act} {w w₁ : World}
theorem Dn.rely (K : WCOk c) (h : Dn c j ds s B s' l o A w) (r : ROc c o w w₁) : Dn c j ds s B s' l o A w₁ :=
  ⟨h.ls, h.df, h.fx, h.t6, h.vs, h.wk.rely K r, fun h1 h2 => let ⟨a, b, d⟩ := h.mid h1 h2; ⟨a, (r.own B a).trans b, d⟩, fun h1 => (h.new h1).rely r, fun h1 => (h.old h1).rely r, fun h1 => (r.cell _ rfl).trans (h.c0 h1), fun h1 => (r.cell _ rfl).trans (h.c1 h1), h.dc⟩
/-- An operation that turns no memory. -/
theorem Dn.pure (h : Dn c j ds s B s' l o A w) {k : Nat} (hk : k < 12) (h9 : k ≠ 9) (h10 : k ≠ 10) {v : Value} (hv : v = Vd c j s B s' k) : Dn c j ds s B s' (l.setIfInBounds k true) o (A.put (some (13 + k)) v) w := by
  have hl := h.ls
  have g : ∀ m, m ≠ k → (l.setIfInBounds k true).getD m false = l.getD m false := fun m hm => by rw [lget_set _ _ _ (by omega), if_neg hm]
  refine ⟨by simpa using hl, h.df, h.fx.set _ (by omega) (by omega), ?_, fun m hm hlm => ?_, h.wk, by rw [g 9 (Ne.symm h9), g 10 (Ne.symm h10)]; exact h.mid, by rw [g 10 (Ne.symm h10)]; exact h.new, by rw [g 10 (Ne.symm h10)]; exact h.old, by rw [g 12 (by omega)]; exact h.c0, by rw [g 12 (by omega)]; exact h.c1, fun e m hm => ?_⟩
  · show (A.tmps.setIfInBounds (13 + k) v).getD 6 undef = _
    rw [getD_set _ _ _ _ (by have := h.fx.sz; omega), if_neg (by omega)]
    exact h.t6
  · show (A.tmps.setIfInBounds (13 + k) v).getD (13 + m) undef = _
    rw [getD_set _ _ _ _ (by have := h.fx.sz; omega)]
    by_cases e : m = k
    · subst e; rw [if_pos rfl, hv]
    · rw [if_neg (by omega)]
      exact h.vs m hm (by rwa [g m e] at hlm)
  · rw [g 12 (by omega)] at e
    rw [lget_set _ _ _ (by omega)]
    split
    · rfl
    · exact h.dc e m hm
end
end

section
open Go.Conc Go.ConcN Go.RowKit Go.Conc.Lib Go.ConcR.Gen Go.ConcN.Gen
open Go.ConcR (KK wgBlock WgAt stA smA rd wr Payload ofEvent_cell)

def Inv4 (c : WC) (j : Nat) (ds : List Deferred) (l : Array Bool) (o : List Nat) (A : Act) (w : World) : Prop := ∃ s B s', Dn c j ds s B s' l o A w

/-- What operation k waits for. -/
def dep4 : Nat → List Nat
  | 4 => [2, 3] | 5 => [4] | 8 => [6, 7] | 9 => [8] | 10 => [5, 9] | 11 => [0, 1, 10] | 12 => [11, 10, 0, 1, 2, 3, 4, 5, 6, 7, 8, 9] | _ => []
theorem deps_ok : ∀ k, k < 13 → ∀ d ∈ dep4 k, ∃ e ∈ (op4 k).after, Region.binds .any e = true ∧ e.on = d := by
  have : (List.range 13).all (fun k => (dep4 k).all fun d => (op4 k).after.toList.any fun e => Region.binds .any e && e.on == d) = true := by kernel_rfl
  intro k hk d hd
  have h1 := List.all_eq_true.1 this k (List.mem_range.2 hk)
  have h2 := List.all_eq_true.1 h1 d hd
  obtain ⟨e, he, h3⟩ := List.any_eq_true.1 h2
  rw [Bool.and_eq_true, beq_iff_eq] at h3
  exact ⟨e, by simpa using he, h3⟩
theorem get4 {k : Nat} (hk : k < 13) : ops4[k]? = some (op4 k) := by
  have : k < ops4.size := by rw [size4]; exact hk
  simp [op4, Array.getElem?_eq_getElem this, Array.getD_eq_getD_getElem?]
theorem guard4 : ∀ k, k < 13 → (op4 k).guard = none := by
  have : (List.range 13).all (fun k => (op4 k).guard.isNone) = true := by kernel_rfl
  intro k hk
  have h1 := List.all_eq_true.1 this k (List.mem_range.2 hk)
  simpa using h1
theorem dst4 : ∀ k, k < 12 → (op4 k).dst = some (13 + k) := by
  have : (List.range 12).all (fun k => (op4 k).dst == some (13 + k)) = true := by kernel_rfl
  intro k hk
  have h1 := List.all_eq_true.1 this k (List.mem_range.2 hk)
  simpa using h1
theorem o4_0 : (op4 0).op = .load 59 (.tmp 2) := rfl
theorem o4_1 : (op4 1).op = .load 3 (.tmp 3) := rfl
theorem o4_2 : (op4 2).op = .load 59 (.tmp 2) := rfl
theorem o4_3 : (op4 3).op = .load 3 (.tmp 3) := rfl
theorem o4_4 : (op4 4).op = .indexAddr 59 (.tmp 15) (.tmp 16) := rfl
theorem o4_5 : (op4 5).op = .load 38 (.tmp 17) := rfl
theorem o4_6 : (op4 6).op = .load 48 (.tmp 4) := rfl
theorem o4_7 : (op4 7).op = .move (.tmp 6) := rfl
theorem o4_8 : (op4 8).op = .binOp .and 48 (.tmp 19) (.tmp 20) 48 := rfl
theorem o4_9 : (op4 9).op = .buildSlice 38 1 #[(0, .tmp 21)] := rfl
theorem o4_10 : (op4 10).op = .call { callee := .builtin .append, args := #[.tmp 18, .tmp 22], argTypes := #[38, 38] } := rfl
theorem o4_11 : (op4 11).op = .indexAddr 59 (.tmp 13) (.tmp 14) := rfl
theorem o4_12 : (op4 12).op = .store 38 (.tmp 24) (.tmp 23) := rfl
theorem d4_12 : (op4 12).dst = none := rfl

section
variable {c : WC} {j : Nat} {ds : List Deferred} {s s' : Value} {B : Nat} {l : Array Bool} {o : List Nat} {A : Act} {w w₁ : World} {Stop : List Nat → Goroutine → World → Prop} {k : List Item} {cs : List Frame}
abbrev GWc (c : WC) (Stop : List Nat → Goroutine → World → Prop) := GoesO Tryd.prog false 81 c.L c.X (some c.i) Stop

theorem single_ev {e x : Event} (h : e ∈ #[x]) : e = x := by simpa using h
set_option maxHeartbeats 1000000 in
theorem step4 (K : WCOk c) (hj : j < c.ny) {i : Nat} {rest : List Nat} {n : Nat} (h : Inv4 c j ds l o A w) (hi : i ∈ Region.ready .any ops4 l)
    (hk : ∀ o' a' w', Inv4 c j ds (l.setIfInBounds i true) o' a' w' → GWc c Stop n o' (G (b52.at a' (.inRegion ops4 rest :: k)) cs) w') :
    GWc c Stop (n + 1) o (G (b52.at A (.inRegion ops4 (i :: rest) :: k)) cs) w := by
  obtain ⟨s, B, s', h⟩ := h
  obtain ⟨hl, oo, ho, hd⟩ := mem_ready.1 hi
  have hi13 : i < 13 := by have := (Array.getElem?_eq_some_iff.1 ho).1; rwa [size4] at this
  have e0 := get4 hi13
  rw [ho] at e0
  obtain rfl := Option.some.inj e0
  have dp : ∀ d ∈ dep4 i, l.getD d false = true := fun d hd' => by
    obtain ⟨e, he, hb, rfl⟩ := deps_ok i hi13 d hd'
    exact hd e he hb
  have hl' : l.getD i false = false := by
    have hlt : i < l.size := by rw [h.ls]; exact hi13
    simpa [Array.getD_eq_getD_getElem?, Array.getElem?_eq_getElem hlt] using hl
  have hw : Region.wanted (op4 i) (yielded ops4 A.tmps) = true := by simp [Region.wanted, guard4 i hi13]
  have hkd : b52.kind ≠ .early := by simp [b52, baseD]
  have no12 : i < 12 → l.getD 12 false = false := fun h12 => by
    cases e : l.getD 12 false with
    | false => rfl
    | true => rw [h.dc e i h12] at hl'; cases hl'
  have pureOp : i < 12 → i ≠ 9 → i ≠ 10 → (∀ w₁, Dn c j ds s B s' l o A w₁ → (execOp A.eval (op4 i)).run Tryd.prog w₁ = .ok (.value (Vd c j s B s' i)) w₁ ∧ ∀ e ∈ (execOp A.eval (op4 i)).events Tryd.prog w₁ #[], EvOc c o e) →
      GWc c Stop (n + 1) o (G (b52.at A (.inRegion ops4 (i :: rest) :: k)) cs) w := by
    intro h12 h9 h10 hx
    refine GoesO.op ho hw hkd fun w₁ h₁ => ?_
    have h' := h.rely K h₁
    obtain ⟨hr, he⟩ := hx w₁ h'
    refine ⟨_, w₁, o, .inl hr, .idle _, fun e hm => he e (mem_listed hm), ?_⟩
    rw [dst4 i h12]
    exact hk _ _ _ ⟨s, B, s', h'.pure h12 h9 h10 rfl⟩
  have ev0 : ∀ {w₁ : World} {x : Sem Next}, x.events Tryd.prog w₁ #[] = #[] → ∀ e ∈ x.events Tryd.prog w₁ #[], EvOc c o e := fun hx e he => by rw [hx] at he; simp at he
  have ev1 : ∀ {w₁ : World} {x : Sem Next} {y : Event}, x.events Tryd.prog w₁ #[] = #[y] → EvOc c o y → ∀ e ∈ x.events Tryd.prog w₁ #[], EvOc c o e := fun hx hy e he => by rw [hx] at he; rw [single_ev he]; exact hy
  have addC : (⟨c.L.C, 0, none⟩ : Addr).add c.i = ⟨c.L.C, c.i, none⟩ := by rw [Addr.add_lit]; simp
  have cases13 : i = 0 ∨ i = 1 ∨ i = 2 ∨ i = 3 ∨ i = 4 ∨ i = 5 ∨ i = 6 ∨ i = 7 ∨ i = 8 ∨ i = 9 ∨ i = 10 ∨ i = 11 ∨ i = 12 := by omega
  rcases cases13 with rfl | rfl | rfl | rfl | rfl | rfl | rfl | rfl | rfl | rfl | rfl | rfl | rfl
  · exact pureOp (by omega) (by omega) (by omega) fun w₁ h' => let r := ld48 o4_0 h.fx.t2 h'.wk.rb; ⟨r.1, ev1 r.2 (ev_low K K.R)⟩
  · exact pureOp (by omega) (by omega) (by omega) fun w₁ h' => let r := ld3 o4_1 h.fx.t3 h'.wk.ib; ⟨r.1, ev1 r.2 (ev_own h'.wk.oI)⟩
  · exact pureOp (by omega) (by omega) (by omega) fun w₁ h' => let r := ld48 o4_2 h.fx.t2 h'.wk.rb; ⟨r.1, ev1 r.2 (ev_low K K.R)⟩
  · exact pureOp (by omega) (by omega) (by omega) fun w₁ h' => let r := ld3 o4_3 h.fx.t3 h'.wk.ib; ⟨r.1, ev1 r.2 (ev_own h'.wk.oI)⟩
  · have a2 := h.vs 2 (by omega) (dp 2 (by simp [dep4]))
    have a3 := h.vs 3 (by omega) (dp 3 (by simp [dep4]))
    refine pureOp (by omega) (by omega) (by omega) fun w₁ h' => ?_
    have r := ia_run (w := w₁) (.inl rfl) o4_4 (a := A) a2 a3 K.hi
    rw [addC] at r
    exact ⟨r.1, ev0 r.2⟩
  · have a4 := h.vs 4 (by omega) (dp 4 (by simp [dep4]))
    exact pureOp (by omega) (by omega) (by omega) fun w₁ h' => let r := ld44 o4_5 (a := A) a4 (h'.c0 (no12 (by omega))); ⟨r.1, ev1 r.2 ev_ci⟩
  · exact pureOp (by omega) (by omega) (by omega) fun w₁ h' => let r := ld52 o4_6 h.fx.t4 h'.wk.ab; ⟨r.1, ev1 r.2 (ev_own h'.wk.oA)⟩
  · refine pureOp (by omega) (by omega) (by omega) fun w₁ h' => ?_
    have r := mv_run (w := w₁) (a := A) o4_7
    rw [show A.eval (.tmp 6) = .int .u64 (c.y j) from h.t6] at r
    exact ⟨r.1, ev0 r.2⟩
  · have a6 := h.vs 6 (by omega) (dp 6 (by simp [dep4]))
    have a7 := h.vs 7 (by omega) (dp 7 (by simp [dep4]))
    exact pureOp (by omega) (by omega) (by omega) fun w₁ h' => let r := and_run (w := w₁) o4_8 (a := A) a6 a7; ⟨r.1, ev0 r.2⟩
  · -- the new element's block
    have a8 := h.vs 8 (by omega) (dp 8 (by simp [dep4]))
    refine GoesO.op ho hw hkd fun w₁ h₁ => ?_
    have h' := h.rely K h₁
    obtain ⟨hr, he⟩ := bs_run (w := w₁) o4_9 (a := A) a8
    obtain ⟨s1, s2, s3, s4, s5, s6⟩ := h'.wk.sizes K
    have hN : c.L.N ≤ w₁.heap.size := by have := h'.wk.oN _ h'.wk.oI; omega
    have keep : ∀ b, b < w₁.heap.size → (w₁.alloc (.cells #[.int .u64 (bits .and .u64 c.a (c.y j))] 48)).heap[b]? = w₁.heap[b]? := fun b hb => heap_alloc_old _ _ b hb
    have hcC : ∀ i', (w₁.alloc (.cells #[.int .u64 (bits .and .u64 c.a (c.y j))] 48)).cell? ⟨c.L.C, i', none⟩ = w₁.cell? ⟨c.L.C, i', none⟩ := fun i' => World.cell?_of_block (keep _ s5)
    refine ⟨_, _, w₁.heap.size :: o, .inl hr, ⟨.inr rfl, by simp, fun b hb => ?_, fun b hb _ _ => keep b hb, fun ⟨arr, p1, p2⟩ => ⟨arr, (keep _ s5).trans p1, p2⟩, fun i' _ => hcC i', rfl, rfl⟩, fun e hm => ?_, ?_⟩
    · rcases List.mem_cons.1 hb with rfl | hb
      · exact .inr ⟨rfl, by simp⟩
      · exact .inl hb
    · have := mem_listed hm
      rw [he] at this
      simp at this
    · rw [dst4 9 (by omega)]
      refine hk _ _ _ ⟨s, w₁.heap.size, s', ?_⟩
      have hls := h'.ls
      have g : ∀ m, m ≠ 9 → (l.setIfInBounds 9 true).getD m false = l.getD m false := fun m hm => by rw [lget_set _ _ _ (by omega), if_neg hm]
      have rowk : ∀ {m : Nat} {u : Value}, RowV c m u o w₁ → RowV c m u (w₁.heap.size :: o) (w₁.alloc (.cells #[.int .u64 (bits .and .u64 c.a (c.y j))] 48)) := fun hrow =>
        ⟨row_of_block hrow.own fun g hg => keep g (row_lt hrow.own hg), fun g hg => ⟨List.mem_cons_of_mem _ (hrow.blk g hg).1, (hrow.blk g hg).2⟩⟩
      refine ⟨by simpa using hls, h'.df, h'.fx.set _ (by omega) (by omega), ?_, fun m hm hlm => ?_, h'.wk.keep K (fun b hb => List.mem_cons_of_mem _ hb) (fun b hb => ?_) (fun b hb _ => keep b hb) (fun ⟨arr, p1, p2⟩ => ⟨arr, (keep _ s5).trans p1, p2⟩), fun _ h2 => ⟨List.mem_cons_self, heap_alloc_new _ _, ?_⟩,
        fun h2 => rowk (h'.new (by rwa [g 10 (by omega)] at h2)), fun h2 => rowk (h'.old (by rwa [g 10 (by omega)] at h2)), fun h2 => (hcC _).trans (h'.c0 (by rwa [g 12 (by omega)] at h2)), fun h2 => (hcC _).trans (h'.c1 (by rwa [g 12 (by omega)] at h2)), fun e m hm => ?_⟩
      · show (A.tmps.setIfInBounds 22 _).getD 6 undef = _
        rw [getD_set _ _ _ _ (by have := h.fx.sz; omega), if_neg (by omega)]
        exact h.t6
      · show (A.tmps.setIfInBounds 22 _).getD (13 + m) undef = _
        rw [getD_set _ _ _ _ (by have := h.fx.sz; omega)]
        by_cases e : m = 9
        · subst e; rfl
        · rw [if_neg (by omega), h'.vs m hm (by rwa [g m e] at hlm)]
          have : m = 0 ∨ m = 1 ∨ m = 2 ∨ m = 3 ∨ m = 4 ∨ m = 5 ∨ m = 6 ∨ m = 7 ∨ m = 8 ∨ m = 10 ∨ m = 11 := by omega
          rcases this with rfl | rfl | rfl | rfl | rfl | rfl | rfl | rfl | rfl | rfl | rfl <;> rfl
      · rcases List.mem_cons.1 hb with rfl | hb
        · exact hN
        · exact h'.wk.oN b hb
      · intro e
        have := row_lt (h'.old (by rwa [g 10 (by omega)] at h2)).own e
        omega
      · rw [g 12 (by omega)] at e
        rw [lget_set _ _ _ (by omega)]
        split
        · rfl
        · exact h'.dc e m hm
  · -- the append
    have a5 := h.vs 5 (by omega) (dp 5 (by simp [dep4]))
    have d9 := dp 9 (by simp [dep4])
    have a9 := h.vs 9 (by omega) d9
    refine GoesO.op ho hw hkd fun w₁ h₁ => ?_
    have h' := h.rely K h₁
    obtain ⟨m1, m2, m3⟩ := h'.mid d9 hl'
    have hrow := h'.old hl'
    have hny := K.hny
    obtain ⟨v', w', hr, hown, hcase, he, hio⟩ := app_run (w := w₁) o4_10 (a := A) a5 a9 hrow.own m2 m3 (by omega)
    obtain ⟨s1, s2, s3, s4, s5, s6⟩ := h'.wk.sizes K
    have hN : c.L.N ≤ w₁.heap.size := by have := h'.wk.oN _ h'.wk.oI; omega
    have hCo : ∀ b ∈ o, b ≠ c.L.C := fun b hb e => by have := h'.wk.oN b hb; have := K.hL.hC; omega
    have fin : ∀ o', (o' = o ∨ o' = w₁.heap.size :: o) → w₁.heap.size ≤ w'.heap.size → (∀ b ∈ o', b ∈ o ∨ (b = w₁.heap.size ∧ b < w'.heap.size)) → (∀ b, b < w₁.heap.size → some b ≠ s.ownBlock → w'.heap[b]? = w₁.heap[b]?) → (∀ g, v'.ownBlock = some g → g ∈ o' ∧ g ≠ c.Ib ∧ g ≠ c.Ab) →
        ∃ v w'' o', ((execOp A.eval (op4 10)).run Tryd.prog w₁ = .ok (.value v) w'' ∨ ((execOp A.eval (op4 10)).run Tryd.prog w₁ = .ok .skip w'' ∧ v = undef)) ∧ DO c.L (some c.i) o o' w₁ w'' ∧ (∀ e ∈ listed Tryd.prog b52.fn A (op4 10) w₁, EvO c.L c.X (some c.i) o' 0 e) ∧
          GWc c Stop n o' (G (b52.at (A.put (op4 10).dst v) (.inRegion ops4 rest :: k)) cs) w'' := by
      intro o' ho' hsz hnew hkeep hblk
      have hsub : ∀ b ∈ o, b ∈ o' := fun b hb => by rcases ho' with e | e <;> rw [e] <;> simp [hb]
      have kC := hkeep _ s5 (fun e => hCo _ (hrow.blk _ e.symm).1 rfl)
      have hpay : PayAt c.L.C c.L.n w₁ → PayAt c.L.C c.L.n w' := fun ⟨arr, p1, p2⟩ => ⟨arr, kC.trans p1, p2⟩
      refine ⟨v', w', o', .inl hr, ⟨ho', hsz, hnew, fun b hb hbo _ => hkeep b hb fun e => hbo (hrow.blk _ e.symm).1, hpay, fun i' _ => World.cell?_of_block kC, hio⟩, fun e hm => ?_, ?_⟩
      · rcases he e (mem_listed hm) with ⟨ad, b1, b2, b3⟩ | rfl
        · obtain ⟨loc, wr, sy⟩ := e
          simp only at b1 b2 b3
          subst b1 b2
          refine ev_own ?_
          rcases b3 with ⟨_, b3⟩ | b3
          · rw [b3]; exact hsub _ m1
          · exact hsub _ (hrow.blk _ b3.symm).1
        · exact ev_room
      · rw [dst4 10 (by omega)]
        refine hk _ _ _ ⟨s, B, v', ?_⟩
        have hls := h'.ls
        have g : ∀ m, m ≠ 10 → (l.setIfInBounds 10 true).getD m false = l.getD m false := fun m hm => by rw [lget_set _ _ _ (by omega), if_neg hm]
        have g10 : (l.setIfInBounds 10 true).getD 10 false = true := by rw [lget_set _ _ _ (by omega), if_pos rfl]
        have n12 := no12 (by omega)
        refine ⟨by simpa using hls, h'.df, h'.fx.set _ (by omega) (by omega), ?_, fun m hm hlm => ?_, h'.wk.keep K hsub (fun b hb => ?_) (fun b hb hb2 => hkeep b hb fun e => ?_) hpay, fun _ h2 => (by rw [g10] at h2; cases h2),
          fun _ => ⟨by rw [vals_succ]; exact hown, hblk⟩, fun h2 => (by rw [g10] at h2; cases h2), fun h2 => (World.cell?_of_block kC).trans (h'.c0 n12), fun h2 => (by rw [g 12 (by omega), n12] at h2; cases h2), fun e m hm => (by rw [g 12 (by omega), n12] at e; cases e)⟩
        · show (A.tmps.setIfInBounds 23 _).getD 6 undef = _
          rw [getD_set _ _ _ _ (by have := h.fx.sz; omega), if_neg (by omega)]
          exact h.t6
        · show (A.tmps.setIfInBounds 23 _).getD (13 + m) undef = _
          rw [getD_set _ _ _ _ (by have := h.fx.sz; omega)]
          by_cases e : m = 10
          · subst e; rfl
          · rw [if_neg (by omega), h'.vs m hm (by rwa [g m e] at hlm)]
            have : m = 0 ∨ m = 1 ∨ m = 2 ∨ m = 3 ∨ m = 4 ∨ m = 5 ∨ m = 6 ∨ m = 7 ∨ m = 8 ∨ m = 9 ∨ m = 11 := by omega
            rcases this with rfl | rfl | rfl | rfl | rfl | rfl | rfl | rfl | rfl | rfl | rfl <;> rfl
        · rcases hnew b hb with hb | ⟨rfl, _⟩
          · exact h'.wk.oN b hb
          · exact hN
        · obtain ⟨q1, q2, q3⟩ := hrow.blk _ e.symm
          rcases hb2 with ⟨hb2, _⟩ | hb2 | hb2
          · have := h'.wk.oN b q1; omega
          · exact q2 hb2
          · exact q3 hb2
    rcases hcase with ⟨p1, p2, p3⟩ | ⟨p1, p2, p3⟩
    · exact fin o (.inl rfl) (Nat.le_of_eq p2.symm) (fun b hb => .inl hb) (fun b _ hb => p3 b hb) fun g hg => hrow.blk g (p1.symm.trans hg)
    · refine fin (w₁.heap.size :: o) (.inr rfl) (by omega) (fun b hb => ?_) (fun b hb _ => p3 b hb) fun g hg => ?_
      · rcases List.mem_cons.1 hb with rfl | hb
        · exact .inr ⟨rfl, by omega⟩
        · exact .inl hb
      · rw [p1] at hg
        cases hg
        exact ⟨List.mem_cons_self, by omega, by omega⟩
  · have a0 := h.vs 0 (by omega) (dp 0 (by simp [dep4]))
    have a1 := h.vs 1 (by omega) (dp 1 (by simp [dep4]))
    refine pureOp (by omega) (by omega) (by omega) fun w₁ h' => ?_
    have r := ia_run (w := w₁) (.inl rfl) o4_11 (a := A) a0 a1 K.hi
    rw [addC] at r
    exact ⟨r.1, ev0 r.2⟩
  · -- the store
    have a11 := h.vs 11 (by omega) (dp 11 (by simp [dep4]))
    have a10 := h.vs 10 (by omega) (dp 10 (by simp [dep4]))
    refine GoesO.op ho hw hkd fun w₁ h₁ => ?_
    have h' := h.rely K h₁
    have d10 := dp 10 (by simp [dep4])
    have hrow := h'.new d10
    obtain ⟨p, q, r, hs'⟩ := row_slc hrow.own
    obtain ⟨u, hu1, hu2⟩ := h'.wk.ci K
    obtain ⟨hr, he⟩ := st44 (w := w₁) o4_12 (a := A) a11 (show A.eval (.tmp 23) = .slice p q r from by rw [← hs']; exact a10) hu1 hu2
    obtain ⟨hdo, hc1, hc2⟩ := do_set K h'.wk (.slice p q r)
    have hCo : ∀ b ∈ o, b ≠ c.L.C := fun b hb e => by have := h'.wk.oN b hb; have := K.hL.hC; omega
    refine ⟨undef, _, o, .inr ⟨hr, rfl⟩, hdo, fun e hm => ?_, ?_⟩
    · have := mem_listed hm
      rw [he] at this
      rw [single_ev this]
      exact ev_ci
    · rw [d4_12]
      refine hk _ _ _ ⟨s, B, s', ?_⟩
      have hls := h'.ls
      have g : ∀ m, m ≠ 12 → (l.setIfInBounds 12 true).getD m false = l.getD m false := fun m hm => by rw [lget_set _ _ _ (by omega), if_neg hm]
      have g12 : (l.setIfInBounds 12 true).getD 12 false = true := by rw [lget_set _ _ _ (by omega), if_pos rfl]
      refine ⟨by simpa using hls, h'.df, h'.fx, h'.t6, fun m hm hlm => h'.vs m hm (by rwa [g m (by omega)] at hlm), h'.wk.keep K (fun b hb => hb) h'.wk.oN (fun b hb hb2 => hc2 b ?_) hdo.pay, fun _ h2 => (by rw [g 10 (by omega), d10] at h2; cases h2),
        fun _ => ⟨row_of_block hrow.own fun x hx => hc2 x (hCo x (hrow.blk x hx).1), hrow.blk⟩, fun h2 => (by rw [g 10 (by omega), d10] at h2; cases h2), fun h2 => (by rw [g12] at h2; cases h2), fun _ => (by rw [hs']; exact hc1), fun _ m hm => ?_⟩
      · rcases hb2 with ⟨_, hb2⟩ | rfl | rfl
        · exact hb2
        · exact hCo _ h'.wk.oI
        · exact hCo _ h'.wk.oA
      · rw [g m (by omega)]
        have : m = 0 ∨ m = 1 ∨ m = 2 ∨ m = 3 ∨ m = 4 ∨ m = 5 ∨ m = 6 ∨ m = 7 ∨ m = 8 ∨ m = 9 ∨ m = 10 ∨ m = 11 := by omega
        exact dp m (by rcases this with rfl | rfl | rfl | rfl | rfl | rfl | rfl | rfl | rfl | rfl | rfl | rfl <;> simp [dep4])
end
end

section
open Go.Conc Go.ConcN Go.RowKit Go.Conc.Lib Go.ConcR.Gen Go.ConcN.Gen
open Go.ConcR (KK wgBlock WgAt stA smA rd wr Payload ofEvent_cell)

noncomputable def ops0 : Array Oper := co (cl body52)
noncomputable def ops1 : Array Oper := co (cl (cr body52))
noncomputable def ops2 : Array Oper := co (cl loop52)
noncomputable def cond2 : Code := cl (cr loop52)
noncomputable def reg3 : Code := cl (cl (cl (cr (cr loop52))))
noncomputable def ops3 : Array Oper := co reg3
noncomputable def ops5 : Array Oper := co (cr (cr (cr loop52)))
theorem body_eq : body52 = .seq (.region 0 ops0 false) (.seq (.region 1 ops1 false) (.block 0 (.loop loop52))) := rfl
theorem loop_eq : loop52 = .seq (.region 2 ops2 false) (.seq (.cond (.tmp 10) .skip (.exit 0)) (.seq (.block 1 (.seq (.region 3 ops3 false) (.region 4 ops4 true))) (.region 5 ops5 false))) := rfl
theorem range1 : List.range 1 = [0] := rfl
theorem range2 : List.range 2 = [0, 1] := rfl
theorem range3 : List.range 3 = [0, 1, 2] := rfl
theorem size2 : ops2.size = 1 := rfl
theorem size3 : ops3.size = 3 := rfl
theorem size5 : ops5.size = 2 := rfl
theorem size1 : ops1.size = 3 := rfl
theorem size0 : ops0.size = 1 := rfl

structure HeadI (c : WC) (j : Nat) (ds : List Deferred) (o : List Nat) (A : Act) (w : World) : Prop where
  df : A.defers = ds
  fx : Fx c j A.tmps
  wk : WK c o w
  row : ∃ s, w.cell? ⟨c.L.C, c.i, none⟩ = some s ∧ RowV c j s o w

section
variable {c : WC} {j : Nat} {ds : List Deferred} {o : List Nat} {A : Act} {w w₁ : World} {Stop : List Nat → Goroutine → World → Prop} {k : List Item} {cs : List Frame}
theorem HeadI.rely (K : WCOk c) (h : HeadI c j ds o A w) (r : ROc c o w w₁) : HeadI c j ds o A w₁ :=
  ⟨h.df, h.fx, h.wk.rely K r, let ⟨s, h1, h2⟩ := h.row; ⟨s, (r.cell _ rfl).trans h1, h2.rely r⟩⟩

theorem bk52 : b52.kind ≠ .early := by simp [b52, baseD]

/-- An operation that turns no memory and keeps what the head asks. -/
theorem GoesO.pureOp {n : Nat} {ops : Array Oper} {i : Nat} {rest : List Nat} {oo : Oper} {v : Value} {Stop : List Nat → Goroutine → World → Prop} (ho : ops[i]? = some oo) (hg : oo.guard = none)
    (h : ∀ w₁, ROc c o w w₁ → (execOp A.eval oo).run Tryd.prog w₁ = .ok (.value v) w₁ ∧ ∀ e ∈ (execOp A.eval oo).events Tryd.prog w₁ #[], EvOc c o e)
    (hk : GWc c Stop n o (G (b52.at (A.put oo.dst v) (.inRegion ops rest :: k)) cs) w) : GWc c Stop (n + 1) o (G (b52.at A (.inRegion ops (i :: rest) :: k)) cs) w :=
  GoesO.op ho (by simp [Region.wanted, hg]) bk52 fun w₁ h₁ => let ⟨hr, he⟩ := h w₁ h₁; ⟨v, w₁, o, .inl hr, .idle _, fun e hm => he e (mem_listed hm), hk.rely h₁⟩

theorem evn {x : Sem Next} (hx : x.events Tryd.prog w #[] = #[]) : ∀ e ∈ x.events Tryd.prog w #[], EvOc c o e := fun e he => by rw [hx] at he; simp at he
theorem evs {x : Sem Next} {y : Event} (hx : x.events Tryd.prog w #[] = #[y]) (hy : EvOc c o y) : ∀ e ∈ x.events Tryd.prog w #[], EvOc c o e := fun e he => by rw [hx] at he; rw [single_ev he]; exact hy

set_option maxRecDepth 10000 in
theorem loop_walk (K : WCOk c) {N : Nat} (hend : ∀ o A w, HeadI c c.ny ds o A w → GWc c Stop N o (G (b52.at A []) cs) w) : ∀ (m j : Nat) (o : List Nat) (A : Act) (w : World), j + m = c.ny → HeadI c j ds o A w →
    GWc c Stop (m * 60 + (N + 20)) o (G (b52.at A [.code loop52, .inLoop loop52, .inBlock 0]) cs) w := by
  have hny := K.hny
  intro m
  induction m with
  | zero =>
    intro j o A w hj h
    obtain rfl : j = c.ny := by omega
    refine GoesO.mono (n := N + 7) ?_ (by omega)
    rw [loop_eq]
    refine GoesO.ctl rfl (fun w => stepG_seq) ?_
    refine GoesO.ctl rfl (fun w => stepG_region) ?_
    rw [size2, range1]
    refine GoesO.pureOp (v := .bool (decide (c.ny < c.ny))) (oo := ops2.getD 0 default) rfl rfl (fun w₁ h₁ => let r := lss_run (w := w₁) (a := A) (o := ops2.getD 0 default) (x := .tmp 9) (y := .tmp 8) rfl h.fx.t9 h.fx.t8; ⟨r.1, evn r.2⟩) ?_
    refine GoesO.ctl rfl (fun w => stepG_region_end) ?_
    refine GoesO.ctl rfl (fun w => stepG_seq) ?_
    have hs := h.fx.sz
    have e10 : (Act.put A (ops2.getD 0 default).dst (.bool (decide (c.ny < c.ny)))).eval (.tmp 10) = .bool false := by
      show (A.tmps.setIfInBounds 10 _).getD 10 undef = _
      rw [getD_set _ _ _ _ (by omega), if_pos rfl]
      simp
    refine GoesO.ctl rfl (fun w => stepG_cond e10) ?_
    refine GoesO.ctl rfl (fun w => stepG_exit (k' := []) rfl) ?_
    exact hend _ _ _ ⟨h.df, h.fx.set _ (by omega) (by omega), h.wk, h.row⟩
  | succ m ih =>
    intro j o A w hj h
    have hjn : j < c.ny := by omega
    have hs := h.fx.sz
    refine GoesO.mono (n := m * 60 + (N + 20) + 60) ?_ (by omega)
    refine GoesO.mono (n := m * 60 + (N + 20) + 40) ?_ (by omega)
    rw [loop_eq]
    refine GoesO.ctl rfl (fun w => stepG_seq) ?_
    refine GoesO.ctl rfl (fun w => stepG_region) ?_
    rw [size2, range1]
    refine GoesO.pureOp (v := .bool (decide (j < c.ny))) (oo := ops2.getD 0 default) rfl rfl (fun w₁ h₁ => let r := lss_run (w := w₁) (a := A) (o := ops2.getD 0 default) (x := .tmp 9) (y := .tmp 8) rfl h.fx.t9 h.fx.t8; ⟨r.1, evn r.2⟩) ?_
    refine GoesO.ctl rfl (fun w => stepG_region_end) ?_
    refine GoesO.ctl rfl (fun w => stepG_seq) ?_
    have e10 : (Act.put A (ops2.getD 0 default).dst (.bool (decide (j < c.ny)))).eval (.tmp 10) = .bool true := by
      show (A.tmps.setIfInBounds 10 _).getD 10 undef = _
      rw [getD_set _ _ _ _ (by omega), if_pos rfl]
      simp [hjn]
    have hA1 : HeadI c j ds o (Act.put A (ops2.getD 0 default).dst (.bool (decide (j < c.ny)))) w := ⟨h.df, h.fx.set _ (by omega) (by omega), h.wk, h.row⟩
    refine GoesO.ctl rfl (fun w => stepG_cond e10) ?_
    clear e10
    generalize Act.put A (ops2.getD 0 default).dst (.bool (decide (j < c.ny))) = A1 at hA1 ⊢
    clear h A hs
    have hs := hA1.fx.sz
    refine GoesO.ctl rfl (fun w => stepG_skip) ?_
    refine GoesO.ctl rfl (fun w => stepG_seq) ?_
    refine GoesO.ctl rfl (fun w => stepG_block) ?_
    refine GoesO.ctl rfl (fun w => stepG_seq) ?_
    refine GoesO.ctl rfl (fun w => stepG_region) ?_
    rw [size3, range3]
    obtain ⟨ad, had⟩ := K.nz (by omega)
    have hY := hA1.wk.ys j ad hjn had
    refine GoesO.pureOp (v := .pointer (some (ad.add j))) (oo := ops3.getD 0 default) rfl rfl (fun w₁ h₁ => let r := ia_run (w := w₁) (a := A1) (o := ops3.getD 0 default) (x := .tmp 7) (y := .tmp 9) (t := 39) (.inr rfl) rfl (show A1.eval (.tmp 7) = .slice (some ad) c.ny c.cy from had ▸ hA1.fx.t7) hA1.fx.t9 hjn; ⟨r.1, evn r.2⟩) ?_
    have hA2 : HeadI c j ds o (Act.put A1 (ops3.getD 0 default).dst (.pointer (some (ad.add j)))) w := ⟨hA1.df, hA1.fx.set _ (by omega) (by omega), hA1.wk, hA1.row⟩
    have e11 : (Act.put A1 (ops3.getD 0 default).dst (.pointer (some (ad.add j)))).eval (.tmp 11) = .pointer (some (ad.add j)) := by
      show (A1.tmps.setIfInBounds 11 _).getD 11 undef = _
      rw [getD_set _ _ _ _ (by omega), if_pos rfl]
    generalize Act.put A1 (ops3.getD 0 default).dst (.pointer (some (ad.add j))) = A2 at hA2 e11 ⊢
    clear hA1 hs A1
    have hs := hA2.fx.sz
    refine GoesO.pureOp (v := .int .u64 (c.y j)) (oo := ops3.getD 1 default) rfl rfl (fun w₁ h₁ => let r := ld52 (w := w₁) (a := A2) (o := ops3.getD 1 default) (x := .tmp 11) rfl e11 ((hA2.wk.rely K h₁).ys j ad hjn had); ⟨r.1, evs r.2 (ev_low K (by rw [addBlock]; exact K.A ad (Nat.zero_lt_of_lt hjn) had))⟩) ?_
    have hA3 : HeadI c j ds o (Act.put A2 (ops3.getD 1 default).dst (.int .u64 (c.y j))) w := ⟨hA2.df, hA2.fx.set _ (by omega) (by omega), hA2.wk, hA2.row⟩
    have e12 : (Act.put A2 (ops3.getD 1 default).dst (.int .u64 (c.y j))).eval (.tmp 12) = .int .u64 (c.y j) := by
      show (A2.tmps.setIfInBounds 12 _).getD 12 undef = _
      rw [getD_set _ _ _ _ (by omega), if_pos rfl]
    generalize Act.put A2 (ops3.getD 1 default).dst (.int .u64 (c.y j)) = A3 at hA3 e12 ⊢
    clear hA2 hs A2 e11
    have hs := hA3.fx.sz
    refine GoesO.pureOp (v := .int .u64 (c.y j)) (oo := ops3.getD 2 default) rfl rfl (fun w₁ h₁ => ?_) ?_
    · have r := as_run (w := w₁) (a := A3) (o := ops3.getD 2 default) (x := .tmp 12) rfl
      rw [e12] at r
      exact ⟨r.1, evn r.2⟩
    have hA4 : HeadI c j ds o (Act.put A3 (ops3.getD 2 default).dst (.int .u64 (c.y j))) w := by
      refine ⟨hA3.df, ?_, hA3.wk, hA3.row⟩
      have hf := hA3.fx
      show Fx c j (A3.tmps.setIfInBounds 6 _)
      refine ⟨by simpa using hs, ?_, ?_, ?_, ?_, ?_, ?_⟩ <;> rw [getD_set _ _ _ _ (by omega), if_neg (by omega)]
      all_goals first | exact hf.t2 | exact hf.t3 | exact hf.t4 | exact hf.t7 | exact hf.t8 | exact hf.t9
    have e6 : (Act.put A3 (ops3.getD 2 default).dst (.int .u64 (c.y j))).tmps.getD 6 undef = .int .u64 (c.y j) := by
      show (A3.tmps.setIfInBounds 6 _).getD 6 undef = _
      rw [getD_set _ _ _ _ (by omega), if_pos rfl]
    generalize Act.put A3 (ops3.getD 2 default).dst (.int .u64 (c.y j)) = A4 at hA4 e6 ⊢
    clear hA3 hs A3 e12
    have hs := hA4.fx.sz
    refine GoesO.ctl rfl (fun w => stepG_region_end) ?_
    -- the drawn region
    obtain ⟨s0, hs0, hrow0⟩ := hA4.row
    refine GoesO.mono (n := ops4.size + (m * 60 + (N + 20) + 7) + 1) ?_ (by rw [size4]; omega)
    refine GoesO.region_drawn mixed (Inv := Inv4 c j ds) (fun l o A w i rest n hI hi hk => step4 K hjn hI hi hk) (fun l o A w hI hr => ?_) ⟨s0, 0, .bool false, ?_⟩
    · obtain ⟨s, B, s', hD⟩ := hI
      -- all has come up
      have all : ∀ i, i < 13 → l.getD i false = true := by
        have key : ∀ i, i < 13 → (∀ d ∈ (op4 i).after, l.getD d.on false = true) → l.getD i false = true := by
          intro i hi hd
          apply Classical.byContradiction
          intro hn
          have hlt : i < l.size := by rw [hD.ls]; exact hi
          have hf : l.getD i true = false := by
            have : l.getD i false = false := by simpa using hn
            simpa [Array.getD_eq_getD_getElem?, Array.getElem?_eq_getElem hlt] using this
          have : i ∈ Region.ready .any ops4 l := mem_ready.2 ⟨hf, op4 i, get4 hi, fun e he _ => hd e he⟩
          rw [hr] at this
          cases this
        have on_lt : ∀ i, i < 13 → ∀ d ∈ (op4 i).after, d.on < i := by
          have : (List.range 13).all (fun k => (op4 k).after.toList.all fun e => decide (e.on < k)) = true := by kernel_rfl
          intro i hi d hd
          have h1 := List.all_eq_true.1 this i (List.mem_range.2 hi)
          have h2 := List.all_eq_true.1 h1 d (by simpa using hd)
          simpa using h2
        intro i
        induction i using Nat.strongRecOn with
        | _ i ihi => exact fun hi => key i hi fun d hd => ihi _ (on_lt i hi d hd) (by have := on_lt i hi d hd; omega)
      refine GoesO.ctl rfl (fun w => stepG_region_end) ?_
      refine GoesO.ctl rfl (fun w => stepG_inBlock) ?_
      refine GoesO.ctl rfl (fun w => stepG_region) ?_
      rw [size5, range2]
      have hs := hD.fx.sz
      refine GoesO.pureOp (v := .int .i64 ((j + 1 : Nat) : Int)) (oo := ops5.getD 0 default) rfl rfl (fun w₁ h₁ => let r := inc_run (w := w₁) (a := A) (o := ops5.getD 0 default) (x := .tmp 9) rfl hD.fx.t9 (by omega); ⟨r.1, evn r.2⟩) ?_
      have e25 : (Act.put A (ops5.getD 0 default).dst (.int .i64 ((j + 1 : Nat) : Int))).eval (.tmp 25) = .int .i64 ((j + 1 : Nat) : Int) := by
        show (A.tmps.setIfInBounds 25 _).getD 25 undef = _
        rw [getD_set _ _ _ _ (by omega), if_pos rfl]
      refine GoesO.pureOp (v := .int .i64 ((j + 1 : Nat) : Int)) (oo := ops5.getD 1 default) rfl rfl (fun w₁ h₁ => ?_) ?_
      · have r := mv_run (w := w₁) (a := Act.put A (ops5.getD 0 default).dst (.int .i64 ((j + 1 : Nat) : Int))) (o := ops5.getD 1 default) (x := .tmp 25) rfl
        rw [e25] at r
        exact ⟨r.1, evn r.2⟩
      refine GoesO.ctl rfl (fun w => stepG_region_end) ?_
      refine GoesO.ctl rfl (fun w => stepG_inLoop) ?_
      refine ih (j + 1) o _ w (by omega) ⟨hD.df, ?_, hD.wk, s', hD.c1 (all 12 (by omega)), hD.new (all 10 (by omega))⟩
      have hf : Fx c j (A.tmps.setIfInBounds 25 (.int .i64 ((j + 1 : Nat) : Int))) := hD.fx.set _ (by omega) (by omega)
      have hs2 := hf.sz
      show Fx c (j + 1) ((A.tmps.setIfInBounds 25 _).setIfInBounds 9 _)
      refine ⟨by simpa using hs, ?_, ?_, ?_, ?_, ?_, ?_⟩
      · rw [getD_set _ _ _ _ (by omega), if_neg (by omega)]; exact hf.t2
      · rw [getD_set _ _ _ _ (by omega), if_neg (by omega)]; exact hf.t3
      · rw [getD_set _ _ _ _ (by omega), if_neg (by omega)]; exact hf.t4
      · rw [getD_set _ _ _ _ (by omega), if_neg (by omega)]; exact hf.t7
      · rw [getD_set _ _ _ _ (by omega), if_neg (by omega)]; exact hf.t8
      · rw [getD_set _ _ _ _ (by omega), if_pos rfl]
    · have rep : ∀ i, (Array.replicate ops4.size false).getD i false = false := fun i => by
        simp only [Array.getD_eq_getD_getElem?, Array.getElem?_replicate]
        split <;> rfl
      exact ⟨by simp [size4], hA4.df, hA4.fx, e6, fun k _ hk => (by rw [rep] at hk; cases hk), hA4.wk, fun hk => (by rw [rep] at hk; cases hk), fun hk => (by rw [rep] at hk; cases hk), fun _ => hrow0, fun _ => hs0, fun hk => (by rw [rep] at hk; cases hk), fun hk => (by rw [rep] at hk; cases hk)⟩
end
end

section
open Go.Conc Go.ConcN Go.RowKit Go.Conc.Lib Go.ConcR.Gen Go.ConcN.Gen
open Go.ConcR (KK wgBlock WgAt stA smA rd wr Payload ofEvent_cell)

noncomputable def bot : Frame := { (default : Frame) with fn := Tryd.prog.funcs.size, defers := [], mode := .panicking [goexitEntry] }
def call52 (c : WC) : Deferred := { target := .fn (.func 42) #[.pointer (some ⟨c.L.Wg, 0, none⟩), .pointer (some ⟨c.Yb, 0, none⟩), .pointer (some ⟨c.Rb, 0, none⟩), .pointer (some ⟨c.Ib, 0, none⟩), .pointer (some ⟨c.Ab, 0, none⟩)], args := #[] }
noncomputable def t52 (c : WC) : Array Value := #[.pointer (some ⟨c.L.Wg, 0, none⟩), .pointer (some ⟨c.Yb, 0, none⟩), .pointer (some ⟨c.Rb, 0, none⟩), .pointer (some ⟨c.Ib, 0, none⟩), .pointer (some ⟨c.Ab, 0, none⟩),
  undef, undef, undef, undef, undef, undef, undef, undef, undef, undef, undef, undef, undef, undef, undef, undef, undef, undef, undef, undef, undef]
theorem born_step52 (c : WC) (w : World) : stepG Tryd.prog false (born Tryd.prog (call52 c)) w = .go (G (b52.at ⟨t52 c, []⟩ [.code body52]) [bot]) w #[] := by
  simp [born, call52, stepG, unwind, callDeferred, invoke, callFunc, Tryd.func42, Tryd.f42, seen, GStep.after, G, Frame.enter, Frame.at, b52, baseD, bot, body52, t52]

/-- The literal's own way out, once Done has left: it only leaves. -/
theorem quitsTail52 (T : Array Value) : QuitsD Tryd.prog 2 0 (G { b52.at ⟨T, []⟩ [] with mode := .returning } [bot]) := by
  refine QuitsD.ctl (g' := G bot []) rfl (fun w => ?_) ?_
  · simp [G, stepG, unwind, doReturn, results, Frame.at, b52, baseD, bot, Tryd.func42, Tryd.f42, seen, GStep.after, goexitEntry]
  refine QuitsD.ctl (g' := { G bot [] with status := .finished }) rfl (fun w => ?_) ⟨rfl, rfl⟩
  simp [G, stepG, unwind, bot, goexitEntry, Frame.catches]
  rfl

/-- What a worker leaves. -/
def FinC (c : WC) (o : List Nat) (w : World) : Prop := ∃ s, w.cell? ⟨c.L.C, c.i, none⟩ = some s ∧ w.ownsRow 0 48 1 s c.ny (c.vals c.ny) ∧ ∀ g, s.ownBlock = some g → g ∈ o
def AtRc (c : WC) (o : List Nat) (g : Goroutine) (w : World) : Prop := (∃ v, AtR0 Tryd.prog 81 c.L.Wg c.L.C c.L.n 0 (c.i + 1) v g w) ∧ FinC c o w

section
variable {c : WC} {o : List Nat} {A : Act} {w w₁ : World}
theorem done_tail (K : WCOk c) (h : HeadI c c.ny [dcall 43 #[.pointer (some ⟨c.L.Wg, 0, none⟩)]] o A w) : GWc c (AtRc c) 25 o (G (b52.at A []) [bot]) w := by
  refine GoesO.ctl rfl (fun w => stepG_end) ?_
  refine GoesO.ctl rfl (fun w => stepG_unwind_enter h.df Tryd.func43 (nm_done Tryd.link) rfl) ?_
  obtain ⟨s, hs1, hs2⟩ := h.row
  have hA := @doneN _ Tryd.link Tryd.prog Tryd.wgLib (fun _ _ => False) (fun _ _ => False) c.L.Wg c.L.C c.L.n 0 (c.i + 1) s { b52.at ⟨A.tmps, []⟩ [] with mode := .returning } [bot] 2 rfl (quitsTail52 _) w ⟨h.wk.live, hs1⟩
  have hCo : ∀ b ∈ o, b ≠ c.L.C := fun b hb e => by have := h.wk.oN b hb; have := K.hL.hC; omega
  refine GoesO.of_goesI (R := RW 81 c.L.Wg c.L.C c.L.n 0 c.i) (D := DWs c.L.Wg (fun _ _ => False) (fun _ _ => False) c.L.C c.L.n (c.i + 1)) (S := AtR0 Tryd.prog 81 c.L.Wg c.L.C c.L.n 0 (c.i + 1) s) (I := fun w => RowV c c.ny s o w)
    (fun a b r => r.toRW) (fun a b es hd => ⟨?_, fun e he => ?_⟩) (fun a b r hi => hi.rely r) (fun a b es hd hi => ⟨row_of_block hi.own fun g hg => hd.1.block g (hCo g (hi.blk g hg).1), hi.blk⟩) (fun g w hs hi => ⟨⟨s, hs⟩, s, hs.2.1, hi.own, fun x hx => (hi.blk x hx).1⟩) hA hs2
  · exact ⟨.inl rfl, Nat.le_of_eq hd.1.size.symm, fun b hb => .inl hb, fun b _ _ hb => hd.1.block b hb, hd.1.pay, fun i' hi' => hd.1.cells i' (fun e => hi' (by rw [e]; rfl)), hd.1.os, hd.1.output⟩
  · obtain ⟨h1, h2, h3, h4⟩ := hd.2 e he
    refine ⟨fun x hx => ?_, h2, h3, h4⟩
    rcases (h1 0 "").2 x hx with ⟨⟨ad, e1, e2⟩, e3, e4⟩ | h5 | ⟨h5, _⟩
    · refine ⟨ad, e1, .inr (.inl ⟨?_, e2⟩)⟩
      cases hk : x.kind with
      | atomic => rfl
      | plain => exact absurd hk e3
      | said => exact absurd hk e4
    · exact h5.elim
    · exact h5.elim

set_option maxRecDepth 10000 in
/-- ████ THE WORKER's WHOLE SCRIPT. ████ -/
theorem works52 (K : WCOk c) (h : WK c o w) {s : Value} (hs : w.cell? ⟨c.L.C, c.i, none⟩ = some s) (hrow : RowV c 0 s o w) : GWc c (AtRc c) (c.ny * 60 + (25 + 20) + 13) o (born Tryd.prog (call52 c)) w := by
  refine GoesO.ctl rfl (fun w => born_step52 c w) ?_
  rw [body_eq]
  refine GoesO.ctl rfl (fun w => stepG_seq) ?_
  refine GoesO.ctl rfl (fun w => stepG_region) ?_
  rw [size0, range1]
  refine GoesO.ctl rfl (fun w => stepG_defer (o := ops0.getD 0 default) (f := 43) (ats := #[81]) rfl rfl bk52 rfl) ?_
  refine GoesO.ctl rfl (fun w => stepG_region_end) ?_
  refine GoesO.ctl rfl (fun w => stepG_seq) ?_
  refine GoesO.ctl rfl (fun w => stepG_region) ?_
  rw [size1, range3]
  have e0 : Act.put ⟨(⟨t52 c, []⟩ : Act).tmps, dcall 43 ((#[.tmp 0] : Array Operand).map (Act.eval ⟨t52 c, []⟩)) :: (⟨t52 c, []⟩ : Act).defers⟩ (ops0.getD 0 default).dst undef = ⟨t52 c, [dcall 43 #[.pointer (some ⟨c.L.Wg, 0, none⟩)]]⟩ := by
    have e1 : (#[.tmp 0] : Array Operand).map (Act.eval ⟨t52 c, []⟩) = #[.pointer (some ⟨c.L.Wg, 0, none⟩)] := by simp [Act.eval, t52]
    rw [e1]
    rfl
  rw [e0]
  refine GoesO.pureOp (v := .slice c.ya c.ny c.cy) (oo := ops1.getD 0 default) rfl rfl (fun w₁ h₁ => let r := ld45 (w := w₁) (a := ⟨t52 c, [dcall 43 #[.pointer (some ⟨c.L.Wg, 0, none⟩)]]⟩) (o := ops1.getD 0 default) (x := .tmp 1) (ad := ⟨c.Yb, 0, none⟩) rfl rfl (h.rely K h₁).yb; ⟨r.1, evs r.2 (ev_low K K.Y)⟩) ?_
  refine GoesO.pureOp (v := .int .i64 c.ny) (oo := ops1.getD 1 default) rfl rfl (fun w₁ h₁ => let r := len_run (w := w₁) (a := Act.put ⟨t52 c, [dcall 43 #[.pointer (some ⟨c.L.Wg, 0, none⟩)]]⟩ (ops1.getD 0 default).dst (.slice c.ya c.ny c.cy)) (o := ops1.getD 1 default) (x := .tmp 7) (p := c.ya) (l := c.ny) (c := c.cy) rfl rfl; ⟨r.1, evn r.2⟩) ?_
  refine GoesO.pureOp (v := .int .i64 0) (oo := ops1.getD 2 default) rfl rfl (fun w₁ h₁ => let r := mv_run (w := w₁) (a := Act.put (Act.put ⟨t52 c, [dcall 43 #[.pointer (some ⟨c.L.Wg, 0, none⟩)]]⟩ (ops1.getD 0 default).dst (.slice c.ya c.ny c.cy)) (ops1.getD 1 default).dst (.int .i64 c.ny)) (o := ops1.getD 2 default) (x := .const (.int .i64 0)) rfl; ⟨r.1, evn r.2⟩) ?_
  refine GoesO.ctl rfl (fun w => stepG_region_end) ?_
  refine GoesO.ctl rfl (fun w => stepG_block) ?_
  refine GoesO.ctl rfl (fun w => stepG_loop) ?_
  exact loop_walk K (ds := [dcall 43 #[.pointer (some ⟨c.L.Wg, 0, none⟩)]]) (fun o A w h => done_tail K h) c.ny 0 o _ w (by omega) ⟨rfl, ⟨rfl, rfl, rfl, rfl, rfl, rfl, rfl⟩, h, s, hs, hrow⟩
end
end
end Go.Proofs.YtnifgfnhcjhodaaDoor
