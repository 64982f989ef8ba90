/- errors.Is over two sentinels: the operations; rules for operations whose run hangs on the world. Conditions: each lemma's own. -/
import Derived.Test.YtnifgfnhcjhodaaDoorP1
import Derived.LaidEql
import Derived.Stop.Asserts
import Derived.Conc.AtomicLaws
set_option linter.unusedVariables false
set_option linter.unusedSimpArgs false
namespace Go.Proofs.YtnifgfnhcjhodaaDoor
open Go.Conc Go.RowKit

/-- The two sentinels' addresses, and where they lie. -/
structure Errs (u : World) (a0 a1 : Addr) : Prop where
  g0 : u.cell? ⟨0, 0, none⟩ = some (.iface 124 (.pointer (some a0)))
  g1 : u.cell? ⟨1, 0, none⟩ = some (.iface 124 (.pointer (some a1)))
  ne : a1 ≠ a0
  b0 : ∃ c t, u.heap[a0.block]? = some (.cells c t (0, 0)) ∧ c ≠ #[]
  b1 : ∃ c t, u.heap[a1.block]? = some (.cells c t (0, 0)) ∧ c ≠ #[]
theorem Errs.gx {u u' : World} {a0 a1 : Addr} (h : Errs u a0 a1) (g : Gx u u') : Errs u' a0 a1 := by
  have key : ∀ {a : Addr}, (∃ c t, u.heap[a.block]? = some (.cells c t (0, 0)) ∧ c ≠ #[]) → ∃ c t, u'.heap[a.block]? = some (.cells c t (0, 0)) ∧ c ≠ #[] := fun {a} h => by
    obtain ⟨c, t, h1, h2⟩ := h
    exact ⟨c, t, (g.block _ (Array.getElem?_eq_some_iff.1 h1).1).trans h1, h2⟩
  exact ⟨(World.cell?_of_block (g.block _ (World.block_lt_of_cell? u _ h.g0))).trans h.g0, (World.cell?_of_block (g.block _ (World.block_lt_of_cell? u _ h.g1))).trans h.g1, h.ne, key h.b0, key h.b1⟩
theorem Errs.re {u : World} {a0 a1 : Addr} (h : Errs u a0 a1) (t : Nat → Question → Nat) (d : Nat) : Errs (World.re u t d) a0 a1 := ⟨h.g0, h.g1, h.ne, h.b0, h.b1⟩
/-- In the true world they lie as in the emptied one. -/
theorem Errs.true_ {X : Nat → Prop} {u w : World} {a0 a1 : Addr} (h : Errs u a0 a1) (hp : Pz X u w) :
    (∃ c t, w.heap[a0.block]? = some (.cells c t (0, 0))) ∧ ∃ c t, w.heap[a1.block]? = some (.cells c t (0, 0)) := by
  have key : ∀ {a : Addr}, (∃ c t, u.heap[a.block]? = some (.cells c t (0, 0)) ∧ c ≠ #[]) → ∃ c t, w.heap[a.block]? = some (.cells c t (0, 0)) := fun {a} h => by
    obtain ⟨c, t, h1, h2⟩ := h
    refine ⟨c, t, (hp.same _ fun hx => ?_).trans h1⟩
    obtain ⟨c', t', _, h4⟩ := hp.bad _ hx
    rw [h1] at h4
    injection h4 with h4
    injection h4 with h5
    exact h2 h5
  exact ⟨key h.b0, key h.b1⟩

section
variable {P : Program} {X0 X : Nat → Prop} {u0 u : World} {Q : (Nat → Prop) → Goroutine → World → Prop} {b : Frame} {a : Act} {k : List Item} {cs : List Frame} {ops : Array Oper} {i : Nat} {rest : List Nat} {oo : Oper}
/-- An operation that turns no memory, whose run hangs on the world. -/
theorem Gw.valU {v : Value} (ho : ops[i]? = some oo) (hw : Region.wanted oo (yielded ops a.tmps) = true) (hk : b.kind ≠ .early)
    (h : ∀ w, Pz X u w → (execOp a.eval oo).run P w = .ok (.value v) w ∧ ∀ e ∈ (execOp a.eval oo).events P w #[], GoodE X w.heap.size e)
    (hg : Gw P X0 u0 Q X u (G (b.at (a.put oo.dst v) (.inRegion ops rest :: k)) cs)) : Gw P X0 u0 Q X u (G (b.at a (.inRegion ops (i :: rest) :: k)) cs) := fun w hw' =>
  Gto.of_alw (S := fun g1 w1 => g1 = G (b.at (a.put oo.dst v) (.inRegion ops rest :: k)) cs ∧ Wd X0 u0 X u w1)
    (Alw.op ho hw hk fun d => ⟨v, w.at d, .inl (h _ (hw'.pz.at d)).1, (h _ (hw'.pz.at d)).2, Nat.le_refl _, .stop fun d' => ⟨rfl, (hw'.at d).at d'⟩⟩) fun g1 w1 ⟨e, hw1⟩ => e ▸ hg w1 hw1
/-- A fit operation that turns no memory. -/
theorem Gw.fop {v : Value} (ho : ops[i]? = some oo) (hw : Region.wanted oo (yielded ops a.tmps) = true) (hk : b.kind ≠ .early) (hf : Fit P (execOp a.eval oo)) (h : (execOp a.eval oo).run P u = .ok (.value v) u)
    (hg : Gw P X0 u0 Q X u (G (b.at (a.put oo.dst v) (.inRegion ops rest :: k)) cs)) : Gw P X0 u0 Q X u (G (b.at a (.inRegion ops (i :: rest) :: k)) cs) := fun w hw' =>
  Gto.of_alw (S := fun g1 w1 => g1 = G (b.at (a.put oo.dst v) (.inRegion ops rest :: k)) cs ∧ Wd X0 u0 X u w1)
    (Alw.op ho hw hk fun d => by
      obtain ⟨w', r1, r2, r3, r4, r5⟩ := fit_again hf h (hw'.pz.at d)
      exact ⟨v, w', .inl r1, r5, by rw [hw'.pz.size, r2.size]; exact Nat.le_refl _, .stop fun d' => ⟨rfl, (hw'.step r2 (.refl u)).at d'⟩⟩) fun g1 w1 ⟨e, hw1⟩ => e ▸ hg w1 hw1
end

theorem isTypeOf (v : Value) (w : World) : (Extern.ReflectliteType.typeOf #[.iface 124 v]).run Tryd.prog w = .ok (.iface 108 (.agg #[.pointer (some ⟨2, 124, none⟩)])) w := by kernel_rfl
theorem isTypeOfE (v : Value) (w : World) (es : Array Event) : (Extern.ReflectliteType.typeOf #[.iface 124 v]).events Tryd.prog w es = es := by kernel_rfl
noncomputable def cmpE : Array Value → Sem Value := (Extern.find Tryd.f97).getD fun _ => pure undef
theorem isComparable (w : World) : (cmpE #[.agg #[.pointer (some ⟨2, 124, none⟩)]]).run Tryd.prog w = .ok (.bool true) w := by kernel_rfl
theorem isComparableE (w : World) (es : Array Event) : (cmpE #[.agg #[.pointer (some ⟨2, 124, none⟩)]]).events Tryd.prog w es = es := by kernel_rfl
theorem isMethodComparable (v : Value) (w : World) : (Go.method 262 108 v "Comparable").run Tryd.prog w = .ok (97, v) w := by kernel_rfl
theorem isMethodComparableE (v : Value) (w : World) (es : Array Event) : (Go.method 262 108 v "Comparable").events Tryd.prog w es = es := by kernel_rfl
theorem isComp : (Tryd.prog.info? 124).map (·.comparable) = some true := by kernel_rfl
theorem isSize : (Tryd.prog.info? 151).map (·.size) = some 1 := by kernel_rfl
theorem noIsR (v : Value) (xT : TypeId) (w : World) : (Instr.typeAssert (.iface 124 v) xT 110 true).run Tryd.prog w = .ok (.tuple #[.nilIface, .bool false]) w := run_typeAssert_lacksB Tryd.underlying110 (by kernel_rfl) (by kernel_rfl) v xT w
theorem noUnR (v : Value) (xT : TypeId) (w : World) : (Instr.typeAssert (.iface 124 v) xT 112 true).run Tryd.prog w = .ok (.tuple #[.nilIface, .bool false]) w := run_typeAssert_lacksB Tryd.underlying112 (by kernel_rfl) (by kernel_rfl) v xT w
theorem noUsR (v : Value) (xT : TypeId) (w : World) : (Instr.typeAssert (.iface 124 v) xT 114 true).run Tryd.prog w = .ok (.tuple #[.nilIface, .bool false]) w := run_typeAssert_lacksB Tryd.underlying114 (by kernel_rfl) (by kernel_rfl) v xT w

section
variable {a : Act} {w : World} {o : Oper} {x y : Operand} {v : Value}
theorem typeOf_op (h : o.op = .call { callee := .value (.func 45), args := #[x], argTypes := #[20] }) (hx : a.eval x = .iface 124 v) :
    (execOp a.eval o).run Tryd.prog w = .ok (.value (.iface 108 (.agg #[.pointer (some ⟨2, 124, none⟩)]))) w ∧ (execOp a.eval o).events Tryd.prog w #[] = #[⟨.mark (.extern 45), false, true⟩] := by
  have hr := @run_callFunc_extern Tryd.prog 45 _ Extern.ReflectliteType.typeOf Tryd.func45 (by kernel_rfl) (by kernel_rfl) (by kernel_rfl) (by kernel_rfl) #[.iface 124 v] w
  have he := events_callFunc_extern (P := Tryd.prog) (w := w) (e := Extern.ReflectliteType.typeOf) Tryd.func45 (by kernel_rfl) (by kernel_rfl) (by kernel_rfl) (by kernel_rfl) #[.iface 124 v] #[]
  have e0 : a.eval (.func 45) = .func (.func 45) #[] #[] := rfl
  rw [isTypeOf] at hr
  rw [isTypeOfE] at he
  constructor <;> unfold execOp <;> simp only [h, resolve, List.map_toArray, List.map_cons, List.map_nil, hx, e0] <;> simp [go_sem, Deferred.ofValue, invoke, hr, he]
theorem comp_op (h : o.op = .call { callee := .invoke x "Comparable", args := #[], argTypes := #[] }) (hx : a.eval x = .iface 108 (.agg #[.pointer (some ⟨2, 124, none⟩)])) :
    (execOp a.eval o).run Tryd.prog w = .ok (.value (.bool true)) w ∧ (execOp a.eval o).events Tryd.prog w #[] = #[⟨.mark (.extern 97), false, true⟩] := by
  have hr := @run_callFunc_extern Tryd.prog 97 _ cmpE Tryd.func97 (by kernel_rfl) (by kernel_rfl) (by kernel_rfl) (by kernel_rfl) #[.agg #[.pointer (some ⟨2, 124, none⟩)]] w
  have he := events_callFunc_extern (P := Tryd.prog) (w := w) (e := cmpE) Tryd.func97 (by kernel_rfl) (by kernel_rfl) (by kernel_rfl) (by kernel_rfl) #[.agg #[.pointer (some ⟨2, 124, none⟩)]] #[]
  rw [isComparable] at hr
  rw [isComparableE] at he
  constructor <;> unfold execOp <;> simp only [h, resolve, List.map_toArray, List.map_cons, List.map_nil, hx] <;> simp [go_sem, Deferred.ofValue, invoke, callMethod, hr, he, isMethodComparable, isMethodComparableE]
theorem good_extern {X : Nat → Prop} {n : Nat} {f : FuncId} {b1 b2 : Bool} : ∀ e ∈ #[(⟨.mark (.extern f), b1, b2⟩ : Event)], GoodE X n e := by
  intro e he
  simp only [List.mem_toArray, List.mem_singleton] at he
  subst he
  exact .inr (.inr (.inr ⟨f, rfl⟩))
theorem good_none {X : Nat → Prop} {n : Nat} : ∀ e ∈ (#[] : Array Event), GoodE X n e := by simp


end
section
variable {P : Program} {w : World} {es : Array Event}
theorem ev_underlying (t : TypeId) : (underlying t).events P w es = es := by
  have e : underlying t = (program >>= fun p => match p.underlying t with | some d => pure d | none => stuck "no such type") := rfl
  rw [e, Sem.events_bind]
  simp only [run_program, Result.evThen_ok, events_program]
  split <;> rfl
theorem ev_typeInfo (t : TypeId) : (typeInfo t).events P w es = es := by
  have e : typeInfo t = (program >>= fun p => match p.info? t with | some i => pure i | none => stuck "no such type") := rfl
  rw [e, Sem.events_bind]
  simp only [run_program, Result.evThen_ok, events_program]
  split <;> rfl
theorem fit_assert {asserted : TypeId} {want : Array (String × TypeId)} (hu : P.underlying asserted = some (.interface want)) (t : TypeId) (v : Value) (xT : TypeId) : Fit P (Instr.typeAssert (.iface t v) xT asserted true) := by
  unfold Instr.typeAssert
  refine fit_underlying_bind hu ?_
  refine .bd (fit_typeInfo t) fun i => ?_
  dsimp only
  split
  · exact .pr _
  · exact .bd (fit_zeroValue _) fun _ => .pr _
/-- '==' of an interface value with nil. -/
theorem fit_eql_nils {ti : TypeId} {ms : Array (String × TypeId)} (hi : P.underlying ti = some (.interface ms)) (x : Value) (hx : x = .nilIface ∨ ∃ t v, x = .iface t v) : Fit P (binOp .eql ti x .nilIface) ∧ Fit P (binOp .eql ti .nilIface x) := by
  have key : Fit P (Op.equalIn (9999 + 1) ti x .nilIface) ∧ Fit P (Op.equalIn (9999 + 1) ti .nilIface x) := by
    rcases hx with rfl | ⟨t, v, rfl⟩ <;> (constructor <;> (unfold Op.equalIn; exact fit_underlying_bind hi (.pr _)))
  rcases hx with rfl | ⟨t, v, rfl⟩
  · exact ⟨.bd key.1 fun _ => .pr _, .bd key.2 fun _ => .pr _⟩
  · exact ⟨.bd key.1 fun _ => .pr _, .bd key.2 fun _ => .pr _⟩
theorem run_eql_nils {ti : TypeId} {ms : Array (String × TypeId)} (hi : P.underlying ti = some (.interface ms)) (t : TypeId) (v : Value) :
    (binOp .eql ti (.iface t v) .nilIface).run P w = .ok (.bool false) w ∧ (binOp .eql ti .nilIface (.iface t v)).run P w = .ok (.bool false) w ∧ (binOp .eql ti .nilIface .nilIface).run P w = .ok (.bool true) w := by
  have h1 : ∀ d : Nat, (Op.equalIn (d + 1) ti (.iface t v) .nilIface).run P w = .ok false w := fun d => by simp [Op.equalIn, run_underlying hi]
  have h2 : ∀ d : Nat, (Op.equalIn (d + 1) ti .nilIface (.iface t v)).run P w = .ok false w := fun d => by simp [Op.equalIn, run_underlying hi]
  have h3 : ∀ d : Nat, (Op.equalIn (d + 1) ti .nilIface .nilIface).run P w = .ok true w := fun d => by simp [Op.equalIn, run_underlying hi]
  refine ⟨?_, ?_, ?_⟩ <;> simp only [binOp] <;> simp [Op.equal, Op.maxDepth, h1 9999, h2 9999, h3 9999]
theorem ev_sameAddr {a b : Addr} {ca cb : Array Value} {ta tb : TypeId} (ha : w.heap[a.block]? = some (.cells ca ta (0, 0))) (hb : w.heap[b.block]? = some (.cells cb tb (0, 0))) : (sameAddr a b).events P w es = es := by
  by_cases hbl : a.block = b.block
  · simp [sameAddr, hbl]
  · simp [sameAddr, hbl, World.frozen?, ha, hb, noView, viewAt, World.shape?, mayBeOne, stringish]
theorem ev_eql_ptr {ti tp te : TypeId} {ms : Array (String × TypeId)} {i j : TypeInfo} {a b : Addr} {ca cb : Array Value} {ta tb : TypeId}
    (hi : P.underlying ti = some (.interface ms)) (hp : P.underlying tp = some (.pointer te)) (hinfo : P.info? tp = some i) (hcomp : i.comparable = true) (hte : P.info? te = some j) (hsz : j.size ≠ 0)
    (ha : w.heap[a.block]? = some (.cells ca ta (0, 0))) (hb : w.heap[b.block]? = some (.cells cb tb (0, 0))) :
    (binOp .eql ti (.iface tp (.pointer (some a))) (.iface tp (.pointer (some b)))).events P w es = es := by
  have e := fun es => ev_sameAddr (P := P) (es := es) ha hb
  have h1 : ∀ d : Nat, (Op.equalIn (d + 2) ti (.iface tp (.pointer (some a))) (.iface tp (.pointer (some b)))).events P w es = es := fun d => by
    simp [Op.equalIn, run_underlying hi, run_underlying hp, typeInfo, hinfo, hcomp, sizeOf, hte, hsz, e, ev_underlying]
  simp only [binOp]
  simp [Op.equal, Op.maxDepth, h1 9998]
end

section
variable {a : Act} {w : World} {o : Oper} {x y : Operand} {v : Value}
theorem assert_op {t : TypeId} (ht : t = 110 ∨ t = 112 ∨ t = 114) (h : o.op = .typeAssert x 43 t true) (hx : a.eval x = .iface 124 v) :
    Fit Tryd.prog (execOp a.eval o) ∧ (execOp a.eval o).run Tryd.prog w = .ok (.value (.tuple #[.nilIface, .bool false])) w := by
  have key : ∀ {want}, Tryd.prog.underlying t = some (.interface want) → (Instr.typeAssert (.iface 124 v) 43 t true).run Tryd.prog w = .ok (.tuple #[.nilIface, .bool false]) w → Fit Tryd.prog (execOp a.eval o) ∧ (execOp a.eval o).run Tryd.prog w = .ok (.value (.tuple #[.nilIface, .bool false])) w := fun hu e => by
    constructor
    · unfold execOp
      simp only [h, hx]
      exact .bd (fit_assert hu _ _ _) fun _ => .pr _
    · unfold execOp
      simp only [h, hx]
      simp [go_sem, e]
  rcases ht with rfl | rfl | rfl
  · exact key Tryd.underlying110 (noIsR v _ w)
  · exact key Tryd.underlying112 (noUnR v _ w)
  · exact key Tryd.underlying114 (noUsR v _ w)
theorem eqG1 (t tt : TypeId) (x y : Operand) (v : Value) : eqGuard .eql t x y (.iface tt v) .nilIface = pure () := by unfold eqGuard; rfl
theorem eqG2 (t : TypeId) (x : Operand) : eqGuard .eql t x (.const .nilIface) .nilIface .nilIface = pure () := by unfold eqGuard; simp
/-- An interface value held against the literal nil. -/
theorem eqlnil_op (h : o.op = .binOp .eql 43 x (.const .nilIface) 43) (hx : a.eval x = .iface 124 v) :
    Fit Tryd.prog (execOp a.eval o) ∧ (execOp a.eval o).run Tryd.prog w = .ok (.value (.bool false)) w := by
  have e0 : a.eval (.const .nilIface) = .nilIface := rfl
  have e := (run_eql_nils (w := w) Tryd.underlying43 124 v).1
  constructor
  · unfold execOp
    simp only [h, hx, e0]
    rw [eqG1]
    exact .bd (.bd (.pr _) fun _ => (fit_eql_nils Tryd.underlying43 _ (.inr ⟨_, _, rfl⟩)).1) fun _ => .pr _
  · unfold execOp
    simp only [h, hx, e0]
    rw [eqG1]
    simp [go_sem, e]
theorem eqlnn_op (h : o.op = .binOp .eql 43 x (.const .nilIface) 43) (hx : a.eval x = .nilIface) :
    Fit Tryd.prog (execOp a.eval o) ∧ (execOp a.eval o).run Tryd.prog w = .ok (.value (.bool true)) w := by
  have e0 : a.eval (.const .nilIface) = .nilIface := rfl
  have e := (run_eql_nils (w := w) Tryd.underlying43 124 .nilIface).2.2
  constructor
  · unfold execOp
    simp only [h, hx, e0]
    rw [eqG2]
    exact .bd (.bd (.pr _) fun _ => (fit_eql_nils Tryd.underlying43 _ (.inl rfl)).1) fun _ => .pr _
  · unfold execOp
    simp only [h, hx, e0]
    rw [eqG2]
    simp [go_sem, e]
/-- nil held against an interface value. -/
theorem eqlni_op (h : o.op = .binOp .eql 43 x y 43) (hx : a.eval x = .nilIface) (hy : a.eval y = .iface 124 v) :
    Fit Tryd.prog (execOp a.eval o) ∧ (execOp a.eval o).run Tryd.prog w = .ok (.value (.bool false)) w := by
  have e := (run_eql_nils (w := w) Tryd.underlying43 124 v).2.1
  have eg : eqGuard .eql 43 x y .nilIface (.iface 124 v) = pure () := by unfold eqGuard; rfl
  constructor
  · unfold execOp
    simp only [h, hx, hy]
    rw [eg]
    exact .bd (.bd (.pr _) fun _ => (fit_eql_nils Tryd.underlying43 _ (.inr ⟨_, _, rfl⟩)).2) fun _ => .pr _
  · unfold execOp
    simp only [h, hx, hy]
    rw [eg]
    simp [go_sem, e]
/-- Two sentinels held against one another. -/
theorem eqlpp_op {p q : Addr} {cp cq : Array Value} {tp tq : TypeId} {r : Bool} (h : o.op = .binOp .eql 43 x y 43) (hx : a.eval x = .iface 124 (.pointer (some p))) (hy : a.eval y = .iface 124 (.pointer (some q)))
    (hp : w.heap[p.block]? = some (.cells cp tp (0, 0))) (hq : w.heap[q.block]? = some (.cells cq tq (0, 0))) (hr : decide (p = q) = r) :
    (execOp a.eval o).run Tryd.prog w = .ok (.value (.bool r)) w ∧ (execOp a.eval o).events Tryd.prog w #[] = #[] := by
  obtain ⟨i, hi, hcmp⟩ := Option.map_eq_some_iff.1 isComp
  obtain ⟨j, hj, hjs⟩ := Option.map_eq_some_iff.1 isSize
  have e : (binOp .eql 43 (.iface 124 (.pointer (some p))) (.iface 124 (.pointer (some q)))).run Tryd.prog w = .ok (.bool r) w := by
    by_cases hpq : p = q
    · subst hpq
      rw [show r = true from by rw [← hr]; simp]
      exact run_eql_iface_ptr_same (P := Tryd.prog) w p Tryd.underlying43 Tryd.underlying124 hi hcmp hj
    · rw [show r = false from by rw [← hr]; simp [hpq]]
      exact run_eql_iface_ptr_other (P := Tryd.prog) w Tryd.underlying43 Tryd.underlying124 hi hcmp hj (by rw [hjs]; decide) hpq hp hq
  have ev := ev_eql_ptr (P := Tryd.prog) (es := #[]) (w := w) Tryd.underlying43 Tryd.underlying124 hi hcmp hj (by rw [hjs]; decide) hp hq
  have eg : eqGuard .eql 43 x y (.iface 124 (.pointer (some p))) (.iface 124 (.pointer (some q))) = pure () := by unfold eqGuard; rfl
  constructor <;> unfold execOp <;> simp only [h, hx, hy] <;> rw [eg] <;> simp [go_sem, e, ev]
end
end Go.Proofs.YtnifgfnhcjhodaaDoor
