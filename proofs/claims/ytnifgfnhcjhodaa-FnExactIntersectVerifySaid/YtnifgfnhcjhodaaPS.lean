/- XPS: several texts in one. Conditions: each lemma's own. -/
import Derived.Test.YtnifgfnhcjhodaaPR
import Derived.Calls

import Derived.Conc.Beside

import Derived.Conc.CompanyDraw



namespace Go.Proofs.Ytnifgfnhcjhodaa
set_option linter.unusedVariables false
set_option linter.unusedSimpArgs false
section

/-- S: the sequential functions; K: the slots of a function that hold a known function; M: the functions of which a stretch may be sequential. -/
structure Tame where
  S : FuncId → Bool
  M : FuncId → Bool
  K : FuncId → List (Tmp × FuncId)

def plainT (P : Program) (t : TypeId) : Bool := match P.underlying t with | some (.int _) | some .bool | some .string => true | _ => false
def convB (P : Program) (s d : TypeId) : Bool :=
  match P.underlying s, P.underlying d with
  | some (.int _), some (.int _) => true
  | some (.slice e), some .string => (match P.underlying e with | some (.int .u8) => true | _ => false)
  | _, _ => false
def isFunc (x : Option Operand) (g : FuncId) : Bool := match x with | some (.func h) => h == g | none => true | _ => false
def dstOk (T : Tame) (f : FuncId) (o : Oper) : Bool :=
  (T.K f).all fun x => o.dst != some x.1 || (match o.op with | .move (.tmp s) | .assign (.tmp s) => (T.K f).contains (s, x.2) | _ => false)
def opOk (P : Program) (T : Tame) (f : FuncId) (o : Oper) : Bool :=
  dstOk T f o && match o.op with
  | .move _ | .assign _ | .pick _ _ _ | .alloc _ | .box _ _ | .build _ _ | .buildSlice _ _ _ | .load _ _ | .store _ _ _ | .unOp _ _ _ | .makeInterface _ _ | .makeSlice _ _ _ | .slice _ _ _ _ _
  | .fieldAddr _ _ _ | .field _ _ _ | .indexAddr _ _ _ | .index _ _ _ | .extract _ _ | .panic _ | .nilCheck _ => true
  | .binOp _ t _ _ _ => plainT P t
  | .convert s d _ => convB P s d
  | .call c =>
    match c.callee with
    | .builtin .append | .builtin .len | .builtin .cap => true
    | .value (.func g) => T.S g && (T.K g).all fun x => isFunc c.args[x.1]? x.2
    | .value (.tmp t) => (T.K f).any (·.1 == t) && (T.K f).all fun x => x.1 != t || (T.S x.2 && (T.K x.2).isEmpty)
    | _ => false
  | _ => false
def codeOk (P : Program) (T : Tame) (f : FuncId) : Code → Bool
  | .skip | .exit _ | .ret | .label _ => true
  | .region _ ops _ => ops.all (opOk P T f)
  | .seq a b | .cond _ a b => codeOk P T f a && codeOk P T f b
  | .block _ c | .loop c => codeOk P T f c
  | _ => false

def fnV (g : FuncId) : Value := .func (.func g) #[] #[]
/-- The known slots hold what they should, or nothing yet. -/
def Kn (T : Tame) (f : FuncId) (tmps : Array Value) : Prop := ∀ x ∈ T.K f, tmps.getD x.1 undef = undef ∨ tmps.getD x.1 undef = fnV x.2
/-- Arguments that a sequential function may be entered with. -/
def KnA (T : Tame) (f : FuncId) (args : Array Value) : Prop := ∀ x ∈ T.K f, args[x.1]? = none ∨ args[x.1]? = some (fnV x.2)

structure Closed (P : Program) (T : Tame) : Prop where
  fn : ∀ g, T.S g = true → ∃ fn c, P.funcs[g]? = some fn ∧ (fn.name == "runtime.NumGoroutine") = false ∧ fn.body = some c ∧ codeOk P T g c = true
  sm : ∀ g, T.S g = true → T.M g = true
  fm : ∀ g, T.M g = true → ∃ fn, P.funcs[g]? = some fn
  early : P.follows .staticDataAhead = true
  noInit : ∀ g, P.stepOf g = none

section
variable {P : Program} {T : Tame} {f : FuncId}
theorem plain_of {t : TypeId} (h : plainT P t = true) : ∃ d, P.underlying t = some d ∧ PlainD d := by
  unfold plainT at h
  split at h <;> first | (cases h; done) | (rename_i e; exact ⟨_, e, by first | exact .inl ⟨_, rfl⟩ | exact .inr (.inl rfl) | exact .inr (.inr rfl)⟩)
theorem conv_of {s d : TypeId} (h : convB P s d = true) : ConvOk P s d := by
  unfold convB at h
  split at h
  · rename_i e1 e2; exact .inl ⟨_, _, e1, e2⟩
  · rename_i e1 e2
    split at h
    · rename_i e3; exact .inr ⟨_, e1, e2, e3⟩
    · cases h
  · cases h

/-- What an operation of a sequential function yields. -/
def NextOk (T : Tame) (f : FuncId) (o : Oper) : Next → Prop
  | .value v => ∀ x ∈ T.K f, o.dst = some x.1 → v = undef ∨ v = fnV x.2
  | .skip => True
  | .enter g args => T.S g = true ∧ KnA T g args ∧ ∀ x ∈ T.K f, o.dst ≠ some x.1
  | _ => False

theorem dst_none {o : Oper} (h : dstOk T f o = true) (hm : ∀ s, o.op ≠ .move (.tmp s) ∧ o.op ≠ .assign (.tmp s)) : ∀ x ∈ T.K f, o.dst ≠ some x.1 := by
  intro x hx e
  unfold dstOk at h
  have := List.all_eq_true.1 h x hx
  simp only [e, bne_self_eq_false, Bool.false_or] at this
  split at this
  · rename_i s hs; exact (hm s).1 hs
  · rename_i s hs; exact (hm s).2 hs
  · cases this

theorem run_v {s : Sem Value} {u : World} {n : Next} {u' : World} (h : (do pure (Next.value (← s)) : Sem Next).run P u = .ok n u') : ∃ v, n = .value v := by
  simp only [Bind.bind, run_bind] at h
  cases hr : s.run P u with
  | ok v w => rw [hr] at h; cases h; exact ⟨_, rfl⟩
  | halt x w => rw [hr] at h; cases h
theorem run_u {s : Sem Unit} {u : World} {n : Next} {u' : World} (h : (do s; pure Next.skip : Sem Next).run P u = .ok n u') : n = .skip := by
  simp only [Bind.bind, run_bind] at h
  cases hr : s.run P u with
  | ok v w => rw [hr] at h; cases h; rfl
  | halt x w => rw [hr] at h; cases h

theorem fit_callFunc {g : FuncId} {args : Array Value} (C : Closed P T) (hg : T.S g = true) : Fit P (callFunc g args) ∧ ∀ u n u', (callFunc g args).run P u = .ok n u' → n = .enter g args := by
  obtain ⟨fn, c, h1, h2, h3, _⟩ := C.fn g hg
  have e : ∀ u, (callFunc g args).run P u = .ok (.enter g args) u := fun u => by
    have h2' : ¬ fn.name = "runtime.NumGoroutine" := by simpa using h2
    simp [callFunc, Bind.bind, program, Sem.bind, Sem.run, h1, h2', h3, pure]
  refine ⟨?_, fun u n u' h => by rw [e] at h; cases h; rfl⟩
  unfold callFunc
  refine fit_program_bind ?_
  simp only [h1, h2, h3, Option.isNone_some, Bool.false_eq_true, if_false]
  exact .pr _

theorem op_v {o : Oper} {s : Sem Value} {ρ : Operand → Value} (he : execOp ρ o = do pure (Next.value (← s))) (hs : Fit P s) (hd : ∀ x ∈ T.K f, o.dst ≠ some x.1) :
    Fit P (execOp ρ o) ∧ ∀ u n u', (execOp ρ o).run P u = .ok n u' → NextOk T f o n := by
  refine ⟨by rw [he]; exact .bd hs fun _ => .pr _, fun u n u' h => ?_⟩
  rw [he] at h
  obtain ⟨v, rfl⟩ := run_v h
  exact fun x hx e => absurd e (hd x hx)

theorem nok_stuck {α : Type} (m : String) : Nok P (stuck m : Sem α) := Nok.halt trivial
theorem op_vs {o : Oper} {ρ : Operand → Value} (hs : Fit P (execOp ρ o)) (hv : ∀ u n u', (execOp ρ o).run P u = .ok n u' → (∃ v, n = .value v) ∨ n = .skip) (hd : ∀ x ∈ T.K f, o.dst ≠ some x.1) :
    Fit P (execOp ρ o) ∧ ∀ u n u', (execOp ρ o).run P u = .ok n u' → NextOk T f o n := by
  refine ⟨hs, fun u n u' h => ?_⟩
  rcases hv u n u' h with ⟨v, rfl⟩ | rfl
  · exact fun x hx e => absurd e (hd x hx)
  · trivial

theorem opOk_fit (C : Closed P T) {o : Oper} (h : opOk P T f o = true) {a : Act} (hk : Kn T f a.tmps) :
    Fit P (execOp a.eval o) ∧ ∀ u n u', (execOp a.eval o).run P u = .ok n u' → NextOk T f o n := by
  unfold opOk at h
  rw [Bool.and_eq_true] at h
  obtain ⟨hd, h⟩ := h
  have mv : ∀ x, (o.op = .move x ∨ o.op = .assign x) → execOp a.eval o = pure (.value (a.eval x)) → Fit P (execOp a.eval o) ∧ ∀ u n u', (execOp a.eval o).run P u = .ok n u' → NextOk T f o n := by
    intro x hx he
    refine ⟨by rw [he]; exact .pr _, fun u n u' hr => ?_⟩
    rw [he] at hr
    cases hr
    intro y hy e
    have := List.all_eq_true.1 hd y hy
    simp only [e, bne_self_eq_false, Bool.false_or] at this
    have key : ∀ s, (T.K f).contains (s, y.2) = true → a.eval (.tmp s) = undef ∨ a.eval (.tmp s) = fnV y.2 := fun s hs => hk (s, y.2) (List.contains_iff_mem.1 hs)
    rcases hx with hx | hx
    · rw [hx] at this
      cases x <;> first | (cases this; done) | exact key _ this
    · rw [hx] at this
      cases x <;> first | (cases this; done) | exact key _ this
  split at h
  case h_1 x hop => exact mv x (.inl hop) (by unfold execOp; rw [hop])
  case h_2 x hop => exact mv x (.inr hop) (by unfold execOp; rw [hop])
  all_goals rename_i hop
  all_goals first
    | (cases h; done)
    | exact op_v (by unfold execOp; rw [hop]) (fit_alloc _ _ _) (dst_none hd (by simp [hop]))
    | exact op_v (by unfold execOp; rw [hop]) (fit_box _ _) (dst_none hd (by simp [hop]))
    | exact op_v (by unfold execOp; rw [hop]) (fit_build _ _) (dst_none hd (by simp [hop]))
    | exact op_v (by unfold execOp; rw [hop]) (fit_buildSlice _ _ _) (dst_none hd (by simp [hop]))
    | exact op_v (by unfold execOp; rw [hop]) (fit_loadAt _ _) (dst_none hd (by simp [hop]))
    | exact op_v (by unfold execOp; rw [hop]) (fit_unary _ _) (dst_none hd (by simp [hop]))
    | exact op_v (by unfold execOp; rw [hop]) (fit_makeInterface _ _) (dst_none hd (by simp [hop]))
    | exact op_v (by unfold execOp; rw [hop]) (fit_makeSlice _ _ _) (dst_none hd (by simp [hop]))
    | exact op_v (by unfold execOp; rw [hop]) (fit_sliceAt _ _ _ _ _) (dst_none hd (by simp [hop]))
    | exact op_v (by unfold execOp; rw [hop]) (fit_fieldAt _ _ _) (dst_none hd (by simp [hop]))
    | exact op_v (by unfold execOp; rw [hop]) (fit_field _ _ _) (dst_none hd (by simp [hop]))
    | exact op_v (by unfold execOp; rw [hop]) (fit_indexAt _ _ _) (dst_none hd (by simp [hop]))
    | exact op_v (by unfold execOp; rw [hop]) (fit_index _ _ _) (dst_none hd (by simp [hop]))
    | exact op_v (by unfold execOp; rw [hop]) (fit_extract _ _) (dst_none hd (by simp [hop]))
    | exact op_v (by unfold execOp; rw [hop]) (fit_panicInstr _) (dst_none hd (by simp [hop]))
    | skip
  · refine op_vs (by unfold execOp; rw [hop]; exact .bd (fit_asBool _) fun _ => .pr _) (fun u n u' hr => .inl ?_) (dst_none hd (by simp [hop]))
    unfold execOp at hr
    rw [hop] at hr
    simp only [Bind.bind, run_bind] at hr
    split at hr
    · cases hr; exact ⟨_, rfl⟩
    · cases hr
  · refine op_vs (by unfold execOp; rw [hop]; exact .bd (fit_storeAt _ _ _) fun _ => .pr _) (fun u n u' hr => .inr ?_) (dst_none hd (by simp [hop]))
    unfold execOp at hr
    rw [hop] at hr
    exact run_u hr
  · have rp : ∀ e, Fit P (runtimePanic e : Sem Next) ∧ ∀ u n u', (runtimePanic e : Sem Next).run P u = .ok n u' → ∃ v, n = .value v := fun e => ⟨fit_runtimePanic _, fun u n u' h => absurd h ((nok_runtimePanic e).no _ _ _)⟩
    have pv : ∀ v : Value, Fit P (pure (Next.value v) : Sem Next) ∧ ∀ u n u', (pure (Next.value v) : Sem Next).run P u = .ok n u' → ∃ v, n = .value v := fun v => ⟨.pr _, fun u n u' h => by cases h; exact ⟨_, rfl⟩⟩
    have key : Fit P (execOp a.eval o) ∧ ∀ u n u', (execOp a.eval o).run P u = .ok n u' → ∃ v, n = .value v := by
      unfold execOp
      rw [hop]
      dsimp only
      split <;> first | exact rp _ | exact pv _ | skip
      split <;> first | exact rp _ | exact pv _ | skip
      refine ⟨.bd fit_program fun _ => .bd (fit_nilAhead _ _ _ _) fun r => fit_ite (.bd (fit_unsup _) fun _ => .pr _) (.pr _), fun u n u' h => ?_⟩
      simp only [Bind.bind, run_bind] at h
      split at h
      · split at h
        · split at h
          · simp only [run_bind, unsupported, Sem.run] at h
            cases h
          · cases h; exact ⟨_, rfl⟩
        · cases h
      · cases h
    exact op_vs key.1 (fun u n u' hr => .inl (key.2 u n u' hr)) (dst_none hd (by simp [hop]))
  · obtain ⟨d, h1, h2⟩ := plain_of h
    exact op_v (by unfold execOp; rw [hop]) (.bd (fit_eqGuard _ h1 h2 _ _ _ _) fun _ => fit_binOp _ h1 h2 _ _) (dst_none hd (by simp [hop]))
  · exact op_v (by unfold execOp; rw [hop]) (fit_convert (conv_of h) _) (dst_none hd (by simp [hop]))
  · rename_i c
    have hdn := dst_none hd (by simp [hop])
    have he : execOp a.eval o = (resolve a.eval c o.type >>= fun d => invoke d.target d.args) := by unfold execOp; rw [hop]
    have ent : ∀ g args, T.S g = true → KnA T g args → execOp a.eval o = callFunc g args → Fit P (execOp a.eval o) ∧ ∀ u n u', (execOp a.eval o).run P u = .ok n u' → NextOk T f o n := by
      intro g args hg hka e
      obtain ⟨h1, h2⟩ := fit_callFunc (args := args) C hg
      refine ⟨by rw [e]; exact h1, fun u n u' hr => ?_⟩
      rw [e] at hr
      rw [h2 u n u' hr]
      exact ⟨hg, hka, hdn⟩
    split at h
    · rename_i hc
      exact op_v (s := Builtin.append_ c.argTypes o.type (c.args.map a.eval)) (by rw [he]; unfold resolve; rw [hc]; rfl) (fit_append _ _ _) hdn
    · rename_i hc
      exact op_v (s := Builtin.len_ c.argTypes o.type (c.args.map a.eval)) (by rw [he]; unfold resolve; rw [hc]; rfl) (fit_len _ _ _) hdn
    · rename_i hc
      exact op_v (s := Builtin.cap_ c.argTypes o.type (c.args.map a.eval)) (by rw [he]; unfold resolve; rw [hc]; rfl) (fit_cap _ _ _) hdn
    · rename_i g hc
      rw [Bool.and_eq_true] at h
      refine ent g (c.args.map a.eval) h.1 (fun x hx => ?_) ?_
      · have := List.all_eq_true.1 h.2 x hx
        unfold isFunc at this
        rw [Array.getElem?_map]
        split at this
        · rename_i h0 e1
          right
          rw [e1]
          have : h0 = x.2 := by simpa using this
          rw [← this]; rfl
        · rename_i e1
          left
          rw [e1]
          rfl
        · cases this
      · rw [he]
        unfold resolve
        rw [hc]
        simp [Deferred.ofValue, Act.eval, Bind.bind, Sem.bind, pure, invoke]
    · rename_i t hc
      rw [Bool.and_eq_true] at h
      obtain ⟨x, hx, hxt⟩ := List.any_eq_true.1 h.1
      have hxt : x.1 = t := by simpa using hxt
      have h2 := List.all_eq_true.1 h.2 x hx
      simp only [hxt, bne_self_eq_false, Bool.false_or, Bool.and_eq_true, List.isEmpty_iff] at h2
      have hv := hk x hx
      rw [hxt] at hv
      rcases hv with hv | hv
      · have e : execOp a.eval o = (stuck "call: function value expected" : Sem Deferred) >>= fun d => invoke d.target d.args := by
          rw [he]
          unfold resolve
          rw [hc]
          simp only [Act.eval, hv]
          rfl
        refine ⟨by rw [e]; exact .nok (Nok.bind1 (nok_stuck _) _), fun u n u' hr => ?_⟩
        rw [e] at hr
        cases hr
      · refine ent x.2 (c.args.map a.eval) h2.1 (fun y hy => by rw [h2.2] at hy; cases hy) ?_
        rw [he]
        unfold resolve
        rw [hc]
        simp [Act.eval, hv, fnV, Deferred.ofValue, Bind.bind, Sem.bind, pure, invoke]
    · cases h
end
end

section
open Go.Conc

/-- The operation at a place is allowed. -/
def opAt (P : Program) (T : Tame) (f : FuncId) (ops : Array Oper) (i : Nat) : Bool := match ops[i]? with | some o => opOk P T f o | none => true
theorem opAt_all {P : Program} {T : Tame} {f : FuncId} {ops : Array Oper} (h : ops.all (opOk P T f) = true) (l : List Nat) : l.all (opAt P T f ops) = true := by
  rw [List.all_eq_true]
  intro i _
  unfold opAt
  cases ho : ops[i]? with
  | none => rfl
  | some o =>
    obtain ⟨hlt, rfl⟩ := Array.getElem?_eq_some_iff.1 ho
    exact Array.all_eq_true.1 h i hlt
def itemOk (P : Program) (T : Tame) (f : FuncId) : Item → Bool
  | .code c | .inLoop c => codeOk P T f c
  | .inBlock _ => true
  | .inRegion ops l => l.all (opAt P T f ops)
  | _ => false

/-- A frame of a sequential function: on its way, or (ret) on its way out. -/
structure Lo where
  f : FuncId
  tmps : Array Value
  todo : List Item
  ret : Bool
  bot : Bool
/-- What is behind the stretch (of a frame at the bottom). -/
def tl (K : List Item) (bot : Bool) : List Item → List Item
  | [] => if bot then K else []
  | x :: k => x :: tl K bot k
theorem tl_app {K : List Item} {bot : Bool} (xs k : List Item) : tl K bot (xs ++ k) = xs ++ tl K bot k := by
  induction xs with
  | nil => rfl
  | cons x xs ih => exact congrArg (x :: ·) ih
def Lo.fr (K : List Item) (l : Lo) : Frame := if l.ret then { (base l.f).at ⟨l.tmps, []⟩ (tl K l.bot l.todo) with mode := .returning } else (base l.f).at ⟨l.tmps, []⟩ (tl K l.bot l.todo)
/-- A frame that waits for a call. -/
structure CLo where
  f : FuncId
  tmps : Array Value
  ops : Array Oper
  i : Nat
  rest : List Nat
  k : List Item
  bot : Bool
def CLo.fr (K : List Item) (c : CLo) : Frame := (base c.f).at ⟨c.tmps, []⟩ (.inRegion c.ops (c.i :: c.rest) :: tl K c.bot c.k)
/-- The bottom at which the run by itself dies. -/
def trapK : List Item := [.code (.refuse "")]

structure LoOk (P : Program) (T : Tame) (l : Lo) : Prop where
  seq : T.M l.f = true
  kn : Kn T l.f l.tmps
  todo : ∀ it ∈ l.todo, itemOk P T l.f it = true
structure CLoOk (P : Program) (T : Tame) (c : CLo) : Prop where
  seq : T.M c.f = true
  kn : Kn T c.f c.tmps
  ops : c.rest.all (opAt P T c.f c.ops) = true
  k : ∀ it ∈ c.k, itemOk P T c.f it = true
  op : ∃ o, c.ops[c.i]? = some o ∧ ∀ x ∈ T.K c.f, o.dst ≠ some x.1

def frs (K : List Item) (loc : List CLo) : List Frame := loc.map (CLo.fr K)

/-- Nothing is asked of the results: in slots or in cells, they are read by a fit word (fit_results). -/
def ResOk (P : Program) (T : Tame) : Prop := True

/-- Results, in slots or in cells, are fit. -/
theorem fit_results {P : Program} (fn : Func) (tmps : Array Value) : Fit P (results fn tmps) := by
  unfold results
  refine .bd (fit_mapM _ (fun r => ?_) _) fun vs => .pr _
  cases r with
  | tmp t => exact .pr _
  | cell a t => exact .bd (fit_asAddr _) fun _ => fit_loadVar _ _
/-- The return to a caller, the results read where they lie. -/
theorem stepG_leaveS {P : Program} {main : Bool} {b : Frame} {a : Act} {cs : List Frame} {w w' : World} {fn : Func} {todo : List Item} {c : Frame} {v : Value} (hn : b.kind = .normal) (hd : a.defers = []) (hf : P.funcs[b.fn]? = some fn)
    (hr : (results fn a.tmps).run P w = .ok v w') :
    stepG P main (G { b.at a todo with mode := .returning } (c :: cs)) w = .go (G (c.finish v) cs) w' (seen P b.fn ((results fn a.tmps).events P w #[])) := by
  simp [G, stepG, unwind, doReturn, Frame.at, hn, hd, hf, hr, GStep.after]
theorem stepG_leaveH {P : Program} {main : Bool} {b : Frame} {a : Act} {cs : List Frame} {w w' : World} {fn : Func} {todo : List Item} {x : Halt} (hd : a.defers = []) (hf : P.funcs[b.fn]? = some fn)
    (hr : (results fn a.tmps).run P w = .halt x w') :
    ∃ o w2 es, stepG P main (G { b.at a todo with mode := .returning } cs) w = .ended o w2 es := by
  have e : (results fn a.tmps).runT P w #[] = (.halt x w', (results fn a.tmps).events P w #[]) := by rw [Sem.runT_eq, hr]
  simp only [G, stepG, unwind, Frame.at, hd, hf, e]
  cases x <;> exact ⟨_, _, _, rfl⟩

def StepA (P : Program) (T : Tame) (l : Lo) (loc : List CLo) (u : World) : Prop :=
  ∃ l' loc' u' es, LoOk P T l' ∧ (∀ c ∈ loc', CLoOk P T c) ∧ (∀ K cs, stepG P true (G (l.fr K) (frs K loc ++ cs)) u = .go (G (l'.fr K) (frs K loc' ++ cs)) u' es) ∧
    u'.tape = u.tape ∧ u.drawn ≤ u'.drawn ∧ u.heap.size ≤ u'.heap.size ∧
    ∀ X w, Pz X u w → (∀ i q, i < u'.drawn - u.drawn → u.tape (u.drawn + i) q = w.tape (w.drawn + i) q) →
      ∃ w' es', (∀ K cs, stepG P true (G (l.fr K) (frs K loc ++ cs)) w = .go (G (l'.fr K) (frs K loc' ++ cs)) w' es') ∧ Pz X u' w' ∧ w'.tape = w.tape ∧ w'.drawn + u.drawn = w.drawn + u'.drawn ∧ ∀ e ∈ es', GoodE X w'.heap.size e

def StepC (P : Program) (l : Lo) (loc : List CLo) (u : World) : Prop :=
  ∀ cs, (∃ o w es, stepG P true (G (l.fr trapK) (frs trapK loc ++ cs)) u = .ended o w es) ∨
    ∃ tmps todo chain u' es, stepG P true (G (l.fr trapK) (frs trapK loc ++ cs)) u = .go (G { (base l.f).at ⟨tmps, []⟩ todo with mode := .panicking chain } (frs trapK loc ++ cs)) u' es

section
variable {P : Program} {T : Tame}

theorem stepA_ctl {l l' : Lo} {loc loc' : List CLo} (hl : LoOk P T l') (hc : ∀ c ∈ loc', CLoOk P T c) (h : ∀ K cs w, stepG P true (G (l.fr K) (frs K loc ++ cs)) w = .go (G (l'.fr K) (frs K loc' ++ cs)) w #[]) (u : World) : StepA P T l loc u :=
  ⟨l', loc', u, #[], hl, hc, fun K cs => h K cs u, rfl, Nat.le_refl _, Nat.le_refl _, fun X w hp _ => ⟨w, #[], fun K cs => h K cs w, hp, rfl, Nat.add_comm _ _ ▸ by omega, by simp⟩⟩

theorem kn_put {f : FuncId} {tmps : Array Value} (h : Kn T f tmps) {dst : Option Tmp} {v : Value} (hv : ∀ x ∈ T.K f, dst = some x.1 → v = undef ∨ v = fnV x.2) : Kn T f (Act.put ⟨tmps, []⟩ dst v).tmps := by
  intro x hx
  cases dst with
  | none => exact h x hx
  | some d =>
    show (tmps.setIfInBounds d v).getD x.1 undef = undef ∨ (tmps.setIfInBounds d v).getD x.1 undef = fnV x.2
    by_cases e : d = x.1
    · subst e
      rcases Nat.lt_or_ge x.1 tmps.size with hlt | hge
      · rw [Array.getD_eq_getD_getElem?, Array.getElem?_setIfInBounds_self_of_lt hlt]
        exact hv x hx rfl
      · left
        rw [Array.getD_eq_getD_getElem?, Array.getElem?_eq_none (by simpa using hge)]; rfl
    · have := h x hx
      rw [Array.getD_eq_getD_getElem?] at this ⊢
      rw [Array.getElem?_setIfInBounds_ne e]
      exact this

theorem kn_enter {args : Array Value} {i : Nat} {v : Value} (n : Nat) (h : args[i]? = none ∨ args[i]? = some v) : (args ++ Array.replicate n undef).getD i undef = undef ∨ (args ++ Array.replicate n undef).getD i undef = v := by
  rw [Array.getD_eq_getD_getElem?]
  rcases h with h | h
  · left
    have hge : args.size ≤ i := by simpa using h
    rw [Array.getElem?_append_right hge, Array.getElem?_replicate]
    split <;> rfl
  · right
    have hlt := (Array.getElem?_eq_some_iff.1 h).1
    rw [Array.getElem?_append_left hlt, h]; rfl
theorem put_act (tmps : Array Value) (dst : Option Tmp) (v : Value) : Act.put ⟨tmps, []⟩ dst v = ⟨(Act.put ⟨tmps, []⟩ dst v).tmps, []⟩ := by cases dst <;> rfl

theorem exitTo_ok {f : FuncId} {id : Nat} : ∀ {k k' : List Item}, (∀ it ∈ k, itemOk P T f it = true) → exitTo id k = some k' → ∀ it ∈ k', itemOk P T f it = true
  | [], k', h, e => by simp [exitTo] at e
  | x :: k, k', h, e => by
    cases x <;> simp only [exitTo] at e
    case inBlock id' =>
      split at e
      · cases e; exact fun it hi => h it (by simp [hi])
      · exact exitTo_ok (fun it hi => h it (by simp [hi])) e
    all_goals exact exitTo_ok (fun it hi => h it (by simp [hi])) e

theorem exitTo_tl {id : Nat} {K : List Item} {bot : Bool} : ∀ {k k' : List Item}, exitTo id k = some k' → exitTo id (tl K bot k) = some (tl K bot k')
  | [], k', e => by simp [exitTo] at e
  | x :: k, k', e => by
    cases x <;> simp only [exitTo, tl] at e ⊢
    case inBlock id' =>
      split at e
      · cases e; rename_i h; simp [h]
      · rename_i h; simp [h]; exact exitTo_tl e
    all_goals exact exitTo_tl e
theorem exitTo_trap {id : Nat} {bot : Bool} : ∀ {k : List Item}, exitTo id k = none → exitTo id (tl trapK bot k) = none
  | [], e => by cases bot <;> simp [tl, trapK, exitTo]
  | x :: k, e => by
    cases x <;> simp only [exitTo, tl] at e ⊢
    case inBlock id' =>
      split at e
      · cases e
      · rename_i h; simp [h]; exact exitTo_trap e
    all_goals exact exitTo_trap e

theorem mapM_pure {α β : Type} (f : α → Sem β) : ∀ l : List α, (∀ r ∈ l, ∃ v, f r = pure v) → ∃ vs, l.mapM f = pure vs
  | [], _ => ⟨[], rfl⟩
  | x :: l, h => by
    obtain ⟨v, hv⟩ := h x (by simp)
    obtain ⟨vs, hvs⟩ := mapM_pure f l fun r hr => h r (by simp [hr])
    exact ⟨v :: vs, by rw [List.mapM_cons, hv, hvs]; simp⟩
theorem results_pure {fn : Func} (h : ∀ r ∈ fn.results, ∃ t, r = .tmp t) (tmps : Array Value) : ∃ v, results fn tmps = pure v := by
  have key : ∀ (f : ResultVar → Sem Value), (∀ t, f (.tmp t) = pure (tmps.getD t undef)) → ∃ v, (do
      let vs ← fn.results.mapM f
      pure (if h : vs.size = 1 then vs[0] else .tuple vs) : Sem Value) = pure v := by
    intro f hf
    obtain ⟨vs, hvs⟩ := mapM_pure f fn.results.toList fun r hr => by
      obtain ⟨t, rfl⟩ := h r (by simpa using hr)
      exact ⟨_, hf t⟩
    rw [Array.mapM_eq_mapM_toList, hvs]
    exact ⟨_, by simp; rfl⟩
  exact key _ fun t => rfl

theorem early_ended (C : Closed P T) {fr : Frame} {cs : List Frame} {g : Nat} {w : World} : ∃ o, early P fr cs none g w = .ended o w := by
  unfold early
  simp [C.early, C.noInit]

/-- An operation of a sequential function. -/
theorem seq_op (C : Closed P T) {f : FuncId} {tmps : Array Value} {ops : Array Oper} {i : Nat} {rest : List Nat} {k : List Item} {bot : Bool} {loc : List CLo}
    (hl : LoOk P T ⟨f, tmps, .inRegion ops (i :: rest) :: k, false, bot⟩) (hc : ∀ c ∈ loc, CLoOk P T c) {o : Oper} (ho : ops[i]? = some o) (hw : Region.wanted o (yielded ops tmps) = true) (u : World) :
    StepA P T ⟨f, tmps, .inRegion ops (i :: rest) :: k, false, bot⟩ loc u ∨ StepC P ⟨f, tmps, .inRegion ops (i :: rest) :: k, false, bot⟩ loc u := by
  have hops0 : (i :: rest).all (opAt P T f ops) = true := hl.todo (.inRegion ops (i :: rest)) (by simp)
  rw [List.all_cons, Bool.and_eq_true] at hops0
  have hops : rest.all (opAt P T f ops) = true := hops0.2
  have hk : ∀ it ∈ k, itemOk P T f it = true := fun it hi => hl.todo it (by simp [hi])
  have hoo : opOk P T f o = true := by
    have := hops0.1
    unfold opAt at this
    rw [ho] at this
    exact this
  obtain ⟨hfit, hnext⟩ := opOk_fit C hoo (a := ⟨tmps, []⟩) hl.kn
  have hne : (base f).kind ≠ .early := by intro h; cases h
  have hw' : Region.wanted o (yielded ops (Act.mk tmps []).tmps) = true := hw
  have efr : ∀ K, Lo.fr K ⟨f, tmps, .inRegion ops (i :: rest) :: k, false, bot⟩ = (base f).at ⟨tmps, []⟩ (.inRegion ops (i :: rest) :: tl K bot k) := fun _ => rfl
  have okNew : ∀ tmps', Kn T f tmps' → LoOk P T ⟨f, tmps', .inRegion ops rest :: k, false, bot⟩ := fun tmps' hkn => ⟨hl.seq, hkn, fun it hi => by
    rcases List.mem_cons.1 hi with rfl | hi
    · exact hops
    · exact hk it hi⟩
  cases hr : (execOp (Act.mk tmps []).eval o).run P u with
  | ok n u' =>
    left
    have hn := hnext u n u' hr
    -- a value
    have val : ∀ v, (n = .value v ∨ (n = .skip ∧ v = undef)) → (∀ x ∈ T.K f, o.dst = some x.1 → v = undef ∨ v = fnV x.2) → StepA P T ⟨f, tmps, .inRegion ops (i :: rest) :: k, false, bot⟩ loc u := by
      intro v hv hd
      have st : ∀ w w', (execOp (Act.mk tmps []).eval o).run P w = .ok n w' → ∀ K cs, stepG P true (G ((base f).at ⟨tmps, []⟩ (.inRegion ops (i :: rest) :: tl K bot k)) cs) w =
          .go (G ((base f).at ((Act.mk tmps []).put o.dst v) (.inRegion ops rest :: tl K bot k)) cs) w' (listed P f ⟨tmps, []⟩ o w) := by
        intro w w' h K cs
        rcases hv with rfl | ⟨rfl, rfl⟩
        · exact stepG_value ho hw' hne h
        · exact stepG_none ho hw' hne h
      have hkn := kn_put hl.kn hd
      refine ⟨⟨f, ((Act.mk tmps []).put o.dst v).tmps, .inRegion ops rest :: k, false, bot⟩, loc, u', listed P f ⟨tmps, []⟩ o u, okNew _ hkn, hc, fun K cs => ?_, ?_⟩
      · exact (st u u' hr K (frs K loc ++ cs)).trans (congrArg (fun A => GStep.go (G ((base f).at A (.inRegion ops rest :: tl K bot k)) (frs K loc ++ cs)) u' (listed P f ⟨tmps, []⟩ o u)) (put_act tmps o.dst v))
      · by_cases hX : True
        · have hs := fun X w (hp : Pz X u w) => hfit.sim hp hr
          have h0 := hs (fun _ => False) u ⟨rfl, rfl, rfl, fun _ _ => rfl, fun _ h => h.elim⟩
          refine ⟨h0.1.1, h0.1.2.1, h0.1.2.2, fun X w hp ht => ?_⟩
          obtain ⟨w', r1, r2, r3, r4, r5⟩ := (hs X w hp).2 ht
          refine ⟨w', listed P f ⟨tmps, []⟩ o w, fun K cs => ?_, r2, r3, r4, fun e he => ?_⟩
          · exact (st w w' r1 K (frs K loc ++ cs)).trans (congrArg (fun A => GStep.go (G ((base f).at A (.inRegion ops rest :: tl K bot k)) (frs K loc ++ cs)) w' (listed P f ⟨tmps, []⟩ o w)) (put_act tmps o.dst v))
          · exact (r5 #[] e (mem_listed he)).resolve_left (by simp)
        · exact absurd trivial hX
    cases n with
    | value v => exact val v (.inl rfl) hn
    | skip => exact val undef (.inr ⟨rfl, rfl⟩) (fun _ _ _ => .inl rfl)
    | enter g args =>
      obtain ⟨hg, hka, hdst⟩ := hn
      obtain ⟨fn, c, h1, h2, h3, h4⟩ := C.fn g hg
      have st : ∀ w w', (execOp (Act.mk tmps []).eval o).run P w = .ok (.enter g args) w' → ∀ K cs, stepG P true (G ((base f).at ⟨tmps, []⟩ (.inRegion ops (i :: rest) :: tl K bot k)) cs) w =
          .go (G ((base g).at ⟨args ++ Array.replicate (fn.ntmps - args.size) undef, []⟩ [.code c]) ((base f).at ⟨tmps, []⟩ (.inRegion ops (i :: rest) :: tl K bot k) :: cs)) w' (listed P f ⟨tmps, []⟩ o w) := by
        intro w w' h K cs
        rw [stepG_enter ho hw' hne h, enter_at args h1 h3]
        rfl
      have hkn : Kn T g (args ++ Array.replicate (fn.ntmps - args.size) undef) := fun x hx => by
        exact kn_enter _ (hka x hx)
      refine ⟨⟨g, args ++ Array.replicate (fn.ntmps - args.size) undef, [.code c], false, false⟩, ⟨f, tmps, ops, i, rest, k, bot⟩ :: loc, u', listed P f ⟨tmps, []⟩ o u,
        ⟨C.sm g hg, hkn, fun it hi => by rw [List.mem_singleton] at hi; subst hi; exact h4⟩, fun c' hc' => ?_, fun K cs => by rw [efr, st u u' hr]; rfl, ?_⟩
      · rcases List.mem_cons.1 hc' with rfl | hc'
        · exact ⟨hl.seq, hl.kn, hops, hk, o, ho, hdst⟩
        · exact hc c' hc'
      · have hs := fun X w (hp : Pz X u w) => hfit.sim hp hr
        have h0 := hs (fun _ => False) u ⟨rfl, rfl, rfl, fun _ _ => rfl, fun _ h => h.elim⟩
        refine ⟨h0.1.1, h0.1.2.1, h0.1.2.2, fun X w hp ht => ?_⟩
        obtain ⟨w', r1, r2, r3, r4, r5⟩ := (hs X w hp).2 ht
        exact ⟨w', listed P f ⟨tmps, []⟩ o w, fun K cs => by rw [efr, st w w' r1]; rfl, r2, r3, r4, fun e he => (r5 #[] e (mem_listed he)).resolve_left (by simp)⟩
    | _ => exact hn.elim
  | halt h u' =>
    right
    have hm := hfit.mild u h u' hr
    intro cs
    have hk' : ((base f).kind == CallKind.early) = false := rfl
    have e := stepG_oper (P := P) (main := true) (b := base f) (a := ⟨tmps, []⟩) (k := tl trapK bot k) (cs := frs trapK loc ++ cs) (w := u) (rest := rest) ho hw'
    cases h with
    | panic v =>
      right
      refine ⟨tmps, .inRegion ops (i :: rest) :: tl trapK bot k, [{ v, recovered := false }], u', seen P f ((execOp (Act.mk tmps []).eval o).events P u #[]), ?_⟩
      rw [efr, e]
      simp [stepG.apply, hr, G, Frame.at, GStep.after, Frame.raise, base]
    | stuck m =>
      left
      rw [efr, e]
      simp only [stepG.apply, Sem.runT_eq, hr, if_true, GStep.after]
      exact ⟨_, _, _, rfl⟩
    | unsupported x =>
      left
      rw [efr, e]
      simp only [stepG.apply, Sem.runT_eq, hr, if_true]
      cases x with
      | initOrder g =>
        obtain ⟨o', ho'⟩ := early_ended C (fr := (base f).at ⟨tmps, []⟩ (.inRegion ops (i :: rest) :: tl trapK bot k)) (cs := frs trapK loc ++ cs) (g := g) (w := u')
        simp only [ho', GStep.after]
        exact ⟨_, _, _, rfl⟩
      | _ => simp only [GStep.after]; exact ⟨_, _, _, rfl⟩
    | _ => exact hm.elim
end
end

section
open Go.Conc

section
variable {P : Program} {T : Tame}

theorem finish_clo {K : List Item} {c : CLo} {o : Oper} (ho : c.ops[c.i]? = some o) (v : Value) : (c.fr K).finish v = Lo.fr K ⟨c.f, (Act.put ⟨c.tmps, []⟩ o.dst v).tmps, .inRegion c.ops c.rest :: c.k, false, c.bot⟩ := by
  unfold CLo.fr
  rw [Frame.finish_at, ho]
  exact congrArg (fun A => (base c.f).at A (.inRegion c.ops c.rest :: tl K c.bot c.k)) (put_act c.tmps o.dst v)

theorem seq_step (C : Closed P T) (R : ResOk P T) {l : Lo} {loc : List CLo} (hl : LoOk P T l) (hc : ∀ c ∈ loc, CLoOk P T c) (u : World) : StepA P T l loc u ∨ (loc = [] ∧ l.ret = true) ∨ StepC P l loc u := by
  obtain ⟨f, tmps, todo, ret, bot⟩ := l
  cases ret with
  | true =>
    cases loc with
    | nil => exact .inr (.inl ⟨rfl, rfl⟩)
    | cons c loc =>
      obtain ⟨fn, h1⟩ := C.fm f hl.seq
      have hfit := fit_results (P := P) fn tmps
      have hcc := hc c (by simp)
      obtain ⟨o, ho, hd⟩ := hcc.op
      cases hr : (results fn tmps).run P u with
      | ok v u' =>
        left
        have st : ∀ w w', (results fn tmps).run P w = .ok v w' → ∀ K cs, stepG P true (G (Lo.fr K ⟨f, tmps, todo, true, bot⟩) (frs K (c :: loc) ++ cs)) w =
            .go (G (Lo.fr K ⟨c.f, (Act.put ⟨c.tmps, []⟩ o.dst v).tmps, .inRegion c.ops c.rest :: c.k, false, c.bot⟩) (frs K loc ++ cs)) w' (seen P f ((results fn tmps).events P w #[])) := by
          intro w w' h K cs
          have := stepG_leaveS (P := P) (main := true) (b := base f) (a := ⟨tmps, []⟩) (todo := tl K bot todo) (c := c.fr K) (cs := frs K loc ++ cs) (w := w) (fn := fn) (v := v) rfl rfl h1 h
          rw [finish_clo ho] at this
          exact this
        have hs := fun X w (hp : Pz X u w) => hfit.sim hp hr
        have h0 := hs (fun _ => False) u ⟨rfl, rfl, rfl, fun _ _ => rfl, fun _ h => h.elim⟩
        refine ⟨⟨c.f, (Act.put ⟨c.tmps, []⟩ o.dst v).tmps, .inRegion c.ops c.rest :: c.k, false, c.bot⟩, loc, u', seen P f ((results fn tmps).events P u #[]),
          ⟨hcc.seq, kn_put hcc.kn fun x hx e => absurd e (hd x hx), fun it hi => ?_⟩, fun c' hc' => hc c' (by simp [hc']), fun K cs => st u u' hr K cs, h0.1.1, h0.1.2.1, h0.1.2.2, fun X w hp ht => ?_⟩
        · rcases List.mem_cons.1 hi with rfl | hi
          · exact hcc.ops
          · exact hcc.k it hi
        · obtain ⟨w', r1, r2, r3, r4, r5⟩ := (hs X w hp).2 ht
          exact ⟨w', seen P f ((results fn tmps).events P w #[]), fun K cs => st w w' r1 K cs, r2, r3, r4, fun e he => (r5 #[] e (mem_seen he)).resolve_left (by simp)⟩
      | halt x u' =>
        exact .inr (.inr fun cs => .inl (stepG_leaveH (P := P) (b := base f) (a := ⟨tmps, []⟩) (todo := tl trapK bot todo) (fn := fn) rfl h1 hr))
  | false =>
    have hk : ∀ it ∈ todo, itemOk P T f it = true := hl.todo
    have mk : ∀ todo', (∀ it ∈ todo', itemOk P T f it = true) → LoOk P T ⟨f, tmps, todo', false, bot⟩ := fun _ h => ⟨hl.seq, hl.kn, h⟩
    cases todo with
    | nil =>
      cases bot with
      | false => exact .inl (stepA_ctl (l' := ⟨f, tmps, [], true, false⟩) ⟨hl.seq, hl.kn, by simp⟩ hc (fun K cs w => stepG_end) u)
      | true =>
        refine .inr (.inr fun cs => .inl ?_)
        simp [G, stepG, stepG.exec, Frame.at, Lo.fr, tl, trapK, base]
    | cons it k =>
      have hkk : ∀ it ∈ k, itemOk P T f it = true := fun it hi => hk it (by simp [hi])
      have h0 := hk it (by simp)
      have mk2 : ∀ xs : List Item, (∀ it ∈ xs, itemOk P T f it = true) → LoOk P T ⟨f, tmps, xs ++ k, false, bot⟩ := fun xs h => mk _ fun it hi => (List.mem_append.1 hi).elim (h it) (hkk it)
      cases it with
      | inBlock id => exact .inl (stepA_ctl (l' := ⟨f, tmps, k, false, bot⟩) (mk k hkk) hc (fun K cs w => stepG_inBlock) u)
      | inLoop c => exact .inl (stepA_ctl (l' := ⟨f, tmps, .code c :: .inLoop c :: k, false, bot⟩) (mk2 [.code c, .inLoop c] (by simpa [itemOk] using h0)) hc (fun K cs w => stepG_inLoop) u)
      | inRegion ops todo =>
        cases todo with
        | nil => exact .inl (stepA_ctl (l' := ⟨f, tmps, k, false, bot⟩) (mk k hkk) hc (fun K cs w => stepG_region_end) u)
        | cons i rest =>
          have hrest : LoOk P T ⟨f, tmps, .inRegion ops rest :: k, false, bot⟩ := mk2 [.inRegion ops rest] (by
            have h0' : (i :: rest).all (opAt P T f ops) = true := h0
            rw [List.all_cons, Bool.and_eq_true] at h0'
            intro it hi
            rw [List.mem_singleton] at hi
            subst hi
            exact h0'.2)
          cases ho : ops[i]? with
          | none =>
            refine .inl (stepA_ctl (l' := ⟨f, tmps, .inRegion ops rest :: k, false, bot⟩) hrest hc (fun K cs w => ?_) u)
            simp [G, stepG, stepG.exec, Frame.at, ho, Lo.fr, Frame.finish, tl]
          | some o =>
            cases hw : Region.wanted o (yielded ops tmps) with
            | true => exact (seq_op C hl hc ho hw u).imp id .inr
            | false =>
              refine .inl (stepA_ctl (l' := ⟨f, (Act.put ⟨tmps, []⟩ o.dst undef).tmps, .inRegion ops rest :: k, false, bot⟩) ⟨hl.seq, kn_put hl.kn fun _ _ _ => .inl rfl, hrest.todo⟩ hc (fun K cs w => ?_) u)
              have := stepG_unwanted (P := P) (main := true) (b := base f) (a := ⟨tmps, []⟩) (k := tl K bot k) (cs := frs K loc ++ cs) (w := w) (rest := rest) ho hw
              exact this.trans (congrArg (fun A => GStep.go (G ((base f).at A (.inRegion ops rest :: tl K bot k)) (frs K loc ++ cs)) w #[]) (put_act tmps o.dst undef))
      | code c =>
        cases c with
        | skip => exact .inl (stepA_ctl (l' := ⟨f, tmps, k, false, bot⟩) (mk k hkk) hc (fun K cs w => stepG_skip) u)
        | label n => exact .inl (stepA_ctl (l' := ⟨f, tmps, k, false, bot⟩) (mk k hkk) hc (fun K cs w => stepG_label) u)
        | ret => exact .inl (stepA_ctl (l' := ⟨f, tmps, .code .ret :: k, true, bot⟩) ⟨hl.seq, hl.kn, hk⟩ hc (fun K cs w => stepG_ret') u)
        | seq a b => exact .inl (stepA_ctl (l' := ⟨f, tmps, .code a :: .code b :: k, false, bot⟩) (mk2 [.code a, .code b] (by simpa [itemOk, codeOk, Bool.and_eq_true] using h0)) hc (fun K cs w => stepG_seq) u)
        | block id a => exact .inl (stepA_ctl (l' := ⟨f, tmps, .code a :: .inBlock id :: k, false, bot⟩) (mk2 [.code a, .inBlock id] (by simpa [itemOk, codeOk] using h0)) hc (fun K cs w => stepG_block) u)
        | loop a => exact .inl (stepA_ctl (l' := ⟨f, tmps, .code a :: .inLoop a :: k, false, bot⟩) (mk2 [.code a, .inLoop a] (by simpa [itemOk, codeOk] using h0)) hc (fun K cs w => stepG_loop) u)
        | exit id =>
          cases hx : exitTo id k with
          | some k' => exact .inl (stepA_ctl (l' := ⟨f, tmps, k', false, bot⟩) (mk k' (exitTo_ok hkk hx)) hc (fun K cs w => stepG_exit (exitTo_tl hx)) u)
          | none =>
            refine .inr (.inr fun cs => .inl ?_)
            simp [G, stepG, stepG.exec, Frame.at, Lo.fr, tl, exitTo_trap hx, base]
        | cond c a b =>
          have hab : codeOk P T f a = true ∧ codeOk P T f b = true := by simpa [itemOk, codeOk, Bool.and_eq_true] using h0
          by_cases hb : ∃ t, (Act.mk tmps []).eval c = .bool t
          · obtain ⟨t, ht⟩ := hb
            refine .inl (stepA_ctl (l' := ⟨f, tmps, .code (if t then a else b) :: k, false, bot⟩) (mk2 [.code (if t then a else b)] ?_) hc (fun K cs w => stepG_cond ht) u)
            intro it hi
            rw [List.mem_singleton] at hi
            subst hi
            cases t
            · exact hab.2
            · exact hab.1
          · refine .inr (.inr fun cs => .inl ?_)
            have he := Frame.eval_at (base f) ⟨tmps, []⟩ (.code (.cond c a b) :: tl trapK bot k) c
            simp only [Frame.at] at he
            simp only [G, stepG, stepG.exec, Frame.at, Lo.fr, tl, if_false, Bool.false_eq_true]
            split
            · rename_i t ht
              exact absurd ⟨t, he ▸ ht⟩ hb
            · exact ⟨_, _, _, rfl⟩
        | region id ops draw =>
          have opsl : ∀ l, itemOk P T f (.code (.region id ops draw)) = true → ∀ it ∈ [Item.inRegion ops l], itemOk P T f it = true := fun l h it hi => by
            rw [List.mem_singleton] at hi
            subst hi
            exact opAt_all (by simpa [itemOk, codeOk] using h) l
          cases draw with
          | false => exact .inl (stepA_ctl (l' := ⟨f, tmps, .inRegion ops (List.range ops.size) :: k, false, bot⟩) (mk2 [.inRegion ops (List.range ops.size)] (opsl _ h0)) hc (fun K cs w => stepG_region) u)
          | true =>
            left
            refine ⟨⟨f, tmps, .inRegion ops (Region.schedule (P.follows .mixedOrders) ops (u.tape u.drawn (.order f id))) :: k, false, bot⟩, loc, { u with drawn := u.drawn + 1 }, #[],
              mk2 [.inRegion ops _] (opsl _ h0), hc, fun K cs => stepG_region_draw, rfl, Nat.le_succ _, Nat.le_refl _, fun X w hp ht => ⟨{ w with drawn := w.drawn + 1 }, #[], fun K cs => ?_, hp.draw _ _, rfl, by simp only; omega, by simp⟩⟩
            have h1 := ht 0 (.order f id) (by simp)
            simp only [Nat.add_zero] at h1
            rw [h1]
            exact stepG_region_draw
        | _ => simp [itemOk, codeOk] at h0
      | _ => simp [itemOk] at h0
end
end

section
open Go.Conc

/-- A frame at the bottom at which every run ends. -/
def trap : Frame := { fn := 0, tmps := #[], todo := [.code (.refuse "")], defers := [{ target := .fn (.method "") #[], args := #[] }], mode := .run, kind := .normal }
def Alive (m : Machine) : Prop := ∃ fr cs w, m = lone fr cs w ∧ (∀ ch, fr.mode ≠ .panicking ch) ∧ cs ≠ []

section
variable {P : Program} {T : Tame}

theorem alive_lone {fr : Frame} {cs : List Frame} {w : World} : Alive (lone fr cs w) ↔ (∀ ch, fr.mode ≠ .panicking ch) ∧ cs ≠ [] := by
  constructor
  · rintro ⟨fr', cs', w', e, h1, h2⟩
    simp only [lone, Machine.mk.injEq, Array.mk.injEq, List.cons.injEq, Goroutine.mk.injEq] at e
    obtain ⟨_, ⟨⟨rfl, rfl, _⟩, _⟩, _⟩ := e
    exact ⟨h1, h2⟩
  · exact fun h => ⟨fr, cs, w, rfl, h.1, h.2⟩

def NoBack (P : Program) (m : Machine) : Prop := ∀ n m', runN P n m = .next m' → ¬ Alive m'

theorem noBack_ended {m : Machine} (hm : ¬ Alive m) {o : Outcome} {w : World} (h : step P m = .ended o w) : NoBack P m := by
  intro n m' e
  cases n with
  | zero => cases e; exact hm
  | succ n => simp only [runN, h] at e; cases e
theorem noBack_next {m m₁ : Machine} (hm : ¬ Alive m) (h : step P m = .next m₁) (h1 : NoBack P m₁) : NoBack P m := by
  intro n m' e
  cases n with
  | zero => cases e; exact hm
  | succ n => simp only [runN, h] at e; exact h1 n m' e

theorem trap_run (w : World) : NoBack P (lone trap [] w) := by
  have h : ∃ o, step P (lone trap [] w) = .ended o w := ⟨_, step_lone_ended (by simp only [stepG, stepG.exec, trap, GStep.bare]; rfl)⟩
  obtain ⟨o, ho⟩ := h
  exact noBack_ended (by rw [alive_lone]; simp) ho

theorem trap_panic (ch : List PanicEntry) (w : World) : NoBack P (lone { trap with mode := .panicking ch } [] w) := by
  refine noBack_ended (by rw [alive_lone]; simp) (o := .stuck "call: a method without a receiver" ({ trap with mode := .panicking ch, defers := [] }.pos P)) (w := w) (step_lone_ended ?_)
  simp [stepG, unwind, callDeferred, invoke, trap, stuck, Sem.run, GStep.after, GStep.bare]

theorem panic_back (C : Closed P T) {f : FuncId} (hf : T.M f = true) (tmps : Array Value) (todo : List Item) (ch : List PanicEntry) (w : World) : ∀ loc : List CLo, (∀ c ∈ loc, CLoOk P T c) →
    NoBack P (lone { (base f).at ⟨tmps, []⟩ todo with mode := .panicking ch } (frs trapK loc ++ [trap]) w)
  | [], _ => by
    obtain ⟨fn, h1⟩ := C.fm f hf
    refine noBack_next (by rw [alive_lone]; simp) (m₁ := lone { trap with mode := .panicking ch } [] w) (step_lone_go ?_) (trap_panic ch w)
    simp [stepG, unwind, Frame.at, base, Frame.catches, h1, frs, Frame.raise, trap, GStep.bare]
  | c :: loc, hc => by
    obtain ⟨fn, h1⟩ := C.fm f hf
    refine noBack_next (by rw [alive_lone]; simp) (m₁ := lone { (base c.f).at ⟨c.tmps, []⟩ (.inRegion c.ops (c.i :: c.rest) :: tl trapK c.bot c.k) with mode := .panicking ch } (frs trapK loc ++ [trap]) w) (step_lone_go ?_)
      (panic_back C (hc c (by simp)).seq _ _ ch w loc fun c' h => hc c' (by simp [h]))
    simp [stepG, unwind, Frame.at, base, Frame.catches, h1, frs, Frame.raise, CLo.fr, GStep.bare]

/-- A step of the run by itself that is followed by a live machine is a step in both worlds. -/
theorem lone_step (C : Closed P T) (R : ResOk P T) {l : Lo} {loc : List CLo} (hl : LoOk P T l) (hc : ∀ c ∈ loc, CLoOk P T c) {u : World} {n : Nat} {m' : Machine} (h : runN P (n + 1) (lone (l.fr trapK) (frs trapK loc ++ [trap]) u) = .next m') (ha : Alive m') :
    StepA P T l loc u := by
  rcases seq_step C R hl hc u with h1 | ⟨rfl, hr⟩ | h1
  · exact h1
  · -- out of the local frames
    exfalso
    obtain ⟨f, tmps, todo, ret, bot⟩ := l
    cases hr
    obtain ⟨fn, h1⟩ := C.fm f hl.seq
    cases hr : (results fn tmps).run P u with
    | ok v u' =>
      have e : step P (lone (Lo.fr trapK ⟨f, tmps, todo, true, bot⟩) (frs trapK [] ++ [trap]) u) = .next (lone trap [] u') := by
        refine step_lone_go ?_
        have := stepG_leaveS (P := P) (main := true) (b := base f) (a := ⟨tmps, []⟩) (todo := tl trapK bot todo) (c := trap) (cs := []) (w := u) (fn := fn) (v := v) rfl rfl h1 hr
        have e2 : trap.finish v = trap := rfl
        rw [e2] at this
        show (stepG P true (G { (base f).at ⟨tmps, []⟩ (tl trapK bot todo) with mode := .returning } [trap]) u).bare = _
        rw [this]
        rfl
      simp only [runN, e] at h
      exact trap_run (P := P) u' n m' h ha
    | halt x u' =>
      obtain ⟨o, w2, es, he⟩ := stepG_leaveH (P := P) (main := true) (b := base f) (a := ⟨tmps, []⟩) (todo := tl trapK bot todo) (cs := [trap]) (fn := fn) rfl h1 hr
      have e : step P (lone (Lo.fr trapK ⟨f, tmps, todo, true, bot⟩) (frs trapK [] ++ [trap]) u) = .ended o w2 := step_lone_ended (by
        show (stepG P true (G { (base f).at ⟨tmps, []⟩ (tl trapK bot todo) with mode := .returning } [trap]) u).bare = _
        rw [he]; rfl)
      simp only [runN, e] at h
      cases h
  · exfalso
    rcases h1 [trap] with ⟨o, w, es, he⟩ | ⟨tmps, todo, ch, u', es, he⟩
    · have e : step P (lone (l.fr trapK) (frs trapK loc ++ [trap]) u) = .ended o w := step_lone_ended (by
        show (stepG P true (G (l.fr trapK) (frs trapK loc ++ [trap])) u).bare = _
        rw [he]; rfl)
      simp only [runN, e] at h
      cases h
    · have e : step P (lone (l.fr trapK) (frs trapK loc ++ [trap]) u) = .next (lone { (base l.f).at ⟨tmps, []⟩ todo with mode := .panicking ch } (frs trapK loc ++ [trap]) u') := step_lone_go (by
        show (stepG P true (G (l.fr trapK) (frs trapK loc ++ [trap])) u).bare = _
        rw [he]; rfl)
      simp only [runN, e] at h
      exact panic_back C hl.seq tmps todo ch u' loc hc n m' h ha

def World.re (u : World) (t : Nat → Question → Nat) (d : Nat) : World := { u with tape := t, drawn := d }

theorem pz_none {u w : World} (h : Pz (fun _ => False) u w) : w = World.re u w.tape w.drawn := by
  have hh : w.heap = u.heap := by
    apply Array.ext_getElem?
    intro i
    exact h.same i (fun x => x)
  obtain ⟨a, b, c, d, e⟩ := w
  obtain ⟨a', b', c', d', e'⟩ := u
  have h1 := h.os
  have h2 := h.out
  simp only at hh h1 h2
  subst hh h1 h2
  rfl
theorem pz_re (u : World) (t t' : Nat → Question → Nat) (d d' : Nat) : Pz (fun _ => False) (World.re u t d) (World.re u t' d') := ⟨rfl, rfl, rfl, fun _ _ => rfl, fun _ h => h.elim⟩

theorem lone_of_stepG {l l' : Lo} {loc loc' : List CLo} {u u' : World} {es : Array Event} (h : ∀ K cs, stepG P true (G (l.fr K) (frs K loc ++ cs)) u = .go (G (l'.fr K) (frs K loc' ++ cs)) u' es) :
    step P (lone (l.fr trapK) (frs trapK loc ++ [trap]) u) = .next (lone (l'.fr trapK) (frs trapK loc' ++ [trap]) u') := step_lone_go (by
  show (stepG P true (G (l.fr trapK) (frs trapK loc ++ [trap])) u).bare = _
  rw [h]; rfl)

/-- The same step on another tape that agrees where it is read. -/
theorem StepA.re {l l' : Lo} {loc loc' : List CLo} {u u' : World} (t : Nat → Question → Nat) (d : Nat)
    (hs : ∀ X w, Pz X u w → (∀ i q, i < u'.drawn - u.drawn → u.tape (u.drawn + i) q = w.tape (w.drawn + i) q) →
      ∃ w' es', (∀ K cs, stepG P true (G (l.fr K) (frs K loc ++ cs)) w = .go (G (l'.fr K) (frs K loc' ++ cs)) w' es') ∧ Pz X u' w' ∧ w'.tape = w.tape ∧ w'.drawn + u.drawn = w.drawn + u'.drawn ∧ ∀ e ∈ es', GoodE X w'.heap.size e)
    (hd : u.drawn ≤ u'.drawn) (ht : ∀ i q, i < u'.drawn - u.drawn → u.tape (u.drawn + i) q = t (d + i) q) :
    step P (lone (l.fr trapK) (frs trapK loc ++ [trap]) (World.re u t d)) = .next (lone (l'.fr trapK) (frs trapK loc' ++ [trap]) (World.re u' t (d + (u'.drawn - u.drawn)))) := by
  obtain ⟨w', es', h1, h2, h3, h4, _⟩ := hs (fun _ => False) (World.re u t d) ⟨rfl, rfl, rfl, fun _ _ => rfl, fun _ h => h.elim⟩ ht
  have e := pz_none h2
  have e3 : w'.tape = t := h3
  have e4 : w'.drawn = d + (u'.drawn - u.drawn) := by
    have : w'.drawn + u.drawn = d + u'.drawn := h4
    omega
  rw [e3, e4] at e
  rw [← e]
  exact lone_of_stepG h1

/-- Target: what the run by itself comes to. -/
def Reaches (P : Program) (Tg : Frame → List Frame → World → Prop) (l : Lo) (loc : List CLo) (u : World) : Prop :=
  ∃ n fr cs u', runN P n (lone (l.fr trapK) (frs trapK loc ++ [trap]) u) = .next (lone fr (cs ++ [trap]) u') ∧ (∀ ch, fr.mode ≠ .panicking ch) ∧ Tg fr cs u'
/-- From every tape. -/
def ReachAll (P : Program) (Tg : Frame → List Frame → World → Prop) (l : Lo) (loc : List CLo) (u : World) : Prop := ∀ t d, Reaches P Tg l loc (World.re u t d)
def TapeFree (Tg : Frame → List Frame → World → Prop) : Prop := ∀ fr cs u t d, Tg fr cs u → Tg fr cs (World.re u t d)

theorem lone_inj {fr fr' : Frame} {cs cs' : List Frame} {w w' : World} (h : lone fr (cs ++ [trap]) w = lone fr' (cs' ++ [trap]) w') : fr = fr' ∧ cs = cs' ∧ w = w' := by
  simp only [lone, Machine.mk.injEq, Array.mk.injEq, List.cons.injEq, Goroutine.mk.injEq, List.append_left_inj] at h
  exact ⟨h.2.1.1.1, h.2.1.1.2.1, h.1⟩

/-- Only what lies ahead on the tape matters. -/
theorem reach_shift (C : Closed P T) (R : ResOk P T) {Tg : Frame → List Frame → World → Prop} (hT : TapeFree Tg) : ∀ (n : Nat) {l : Lo} {loc : List CLo} {u : World} {fr : Frame} {cs : List Frame} {u' : World} (t : Nat → Question → Nat) (d : Nat),
    LoOk P T l → (∀ c ∈ loc, CLoOk P T c) → runN P n (lone (l.fr trapK) (frs trapK loc ++ [trap]) u) = .next (lone fr (cs ++ [trap]) u') → (∀ ch, fr.mode ≠ .panicking ch) → Tg fr cs u' →
    (∀ i q, u.tape (u.drawn + i) q = t (d + i) q) → Reaches P Tg l loc (World.re u t d) := by
  intro n
  induction n with
  | zero =>
    intro l loc u fr cs u' t d hl hc h ha hg ht
    simp only [runN, Stepped.next.injEq] at h
    obtain ⟨rfl, rfl, rfl⟩ := lone_inj h
    exact ⟨0, _, _, _, rfl, ha, hT _ _ _ t d hg⟩
  | succ n ih =>
    intro l loc u fr cs u' t d hl hc h ha hg ht
    obtain ⟨l', loc', u₁, es, hl', hc', hst, ht1, hd1, _, hs⟩ := lone_step C R hl hc h (alive_lone.2 ⟨ha, by simp⟩)
    have e := StepA.re t d hs hd1 fun i q _ => ht i q
    have e0 := lone_of_stepG hst
    simp only [runN, e0] at h
    obtain ⟨n', fr', cs', u2, r1, r2, r3⟩ := ih t (d + (u₁.drawn - u.drawn)) hl' hc' h ha hg fun i q => by
      rw [ht1]
      have := ht ((u₁.drawn - u.drawn) + i) q
      rw [show u₁.drawn + i = u.drawn + ((u₁.drawn - u.drawn) + i) by omega, this, Nat.add_assoc]
    exact ⟨n' + 1, fr', cs', u2, by simp only [runN, e]; exact r1, r2, r3⟩
end
end

section
open Go.Conc

/-- Whatever count of draws comes between the steps, goroutine 0 comes to a stop. -/
inductive Alw (P : Program) (X : Nat → Prop) (Stop : Goroutine → World → Prop) : Goroutine → World → Prop where
  | stop {g : Goroutine} {w : World} : (∀ d, Stop g (w.at d)) → Alw P X Stop g w
  | step {g : Goroutine} {w : World} : g.status = .running →
      (∀ d, ∃ g' w' es, stepG P true g (w.at d) = .go g' w' es ∧ (∀ e ∈ es, GoodE X w'.heap.size e) ∧ w.heap.size ≤ w'.heap.size) →
      (∀ d g' w' es, stepG P true g (w.at d) = .go g' w' es → Alw P X Stop g' w') → Alw P X Stop g w

section
variable {P : Program} {T : Tame} {X : Nat → Prop}

/-- The stop that belongs to a target. -/
def StopOf (P : Program) (T : Tame) (X : Nat → Prop) (Tg : Frame → List Frame → World → Prop) (K : List Item) (cs : List Frame) (g : Goroutine) (w : World) : Prop :=
  ∃ (l : Lo) (loc : List CLo) (u : World), LoOk P T l ∧ (∀ c ∈ loc, CLoOk P T c) ∧ g = G (l.fr K) (frs K loc ++ cs) ∧ Pz X u w ∧ Tg (l.fr trapK) (frs trapK loc) u

structure St where
  l : Lo
  loc : List CLo
  u : World
  w : World
/-- A state on a road that never comes to the stop. -/
structure Lost (P : Program) (T : Tame) (X : Nat → Prop) (Tg : Frame → List Frame → World → Prop) (K : List Item) (cs : List Frame) (s : St) : Prop where
  l : LoOk P T s.l
  loc : ∀ c ∈ s.loc, CLoOk P T c
  pz : Pz X s.u s.w
  all : ReachAll P Tg s.l s.loc s.u
  no : ¬ Alw P X (StopOf P T X Tg K cs) (G (s.l.fr K) (frs K s.loc ++ cs)) s.w

/-- From s by a step at count d to s'. -/
structure StepTo (P : Program) (s : St) (d : Nat) (s' : St) : Prop where
  le : d ≤ s'.u.drawn
  sim : ∀ X w, Pz X (World.re s.u s.w.tape d) w → (∀ i q, i < s'.u.drawn - d → s.w.tape (d + i) q = w.tape (w.drawn + i) q) →
      ∃ w' es', (∀ K cs, stepG P true (G (s.l.fr K) (frs K s.loc ++ cs)) w = .go (G (s'.l.fr K) (frs K s'.loc ++ cs)) w' es') ∧ Pz X s'.u w' ∧ w'.tape = w.tape ∧ w'.drawn + d = w.drawn + s'.u.drawn ∧ ∀ e ∈ es', GoodE X w'.heap.size e

theorem lost_noTg {Tg : Frame → List Frame → World → Prop} (hT : TapeFree Tg) {K : List Item} {cs : List Frame} {s : St} (h : Lost P T X Tg K cs s) : ∀ t d, ¬ Tg (s.l.fr trapK) (frs trapK s.loc) (World.re s.u t d) := by
  intro t d hg
  exact h.no (.stop fun d' => ⟨s.l, s.loc, World.re s.u t d, h.l, h.loc, rfl, ⟨h.pz.size, h.pz.os, h.pz.out, h.pz.same, h.pz.bad⟩, hg⟩)

theorem lost_step (C : Closed P T) (R : ResOk P T) {Tg : Frame → List Frame → World → Prop} (hT : TapeFree Tg) {K : List Item} {cs : List Frame} {s : St} (h : Lost P T X Tg K cs s) :
    ∃ d s', Lost P T X Tg K cs s' ∧ StepTo P s d s' := by
  have hno := lost_noTg hT h
  -- a count of draws at which the step does not serve
  have hd : ∃ d, ¬ ∃ g' w' es, stepG P true (G (s.l.fr K) (frs K s.loc ++ cs)) (s.w.at d) = .go g' w' es ∧ (∀ e ∈ es, GoodE X w'.heap.size e) ∧ s.w.heap.size ≤ w'.heap.size ∧ Alw P X (StopOf P T X Tg K cs) g' w' := by
    apply Classical.byContradiction
    intro hn
    have hall : ∀ d, ∃ g' w' es, stepG P true (G (s.l.fr K) (frs K s.loc ++ cs)) (s.w.at d) = .go g' w' es ∧ (∀ e ∈ es, GoodE X w'.heap.size e) ∧ s.w.heap.size ≤ w'.heap.size ∧ Alw P X (StopOf P T X Tg K cs) g' w' := fun d =>
      Classical.byContradiction fun hx => hn ⟨d, hx⟩
    refine h.no (.step rfl (fun d => ?_) fun d g' w' es he => ?_)
    · obtain ⟨g', w', es, h1, h2, h3, _⟩ := hall d
      exact ⟨g', w', es, h1, h2, h3⟩
    · obtain ⟨g2, w2, es2, h1, _, _, h4⟩ := hall d
      rw [he] at h1
      cases h1
      exact h4
  obtain ⟨d, hd⟩ := hd
  obtain ⟨n, fr, cs', u1, r1, r2, r3⟩ := h.all s.w.tape d
  cases n with
  | zero =>
    simp only [runN, Stepped.next.injEq] at r1
    obtain ⟨rfl, rfl, rfl⟩ := lone_inj r1
    exact absurd r3 (hno _ _)
  | succ n =>
    obtain ⟨l', loc', u', es, hl', hc', hst, ht1, hd1, hsz, hs⟩ := lone_step C R h.l h.loc r1 (alive_lone.2 ⟨r2, by simp⟩)
    have hd1' : d ≤ u'.drawn := hd1
    have hp : Pz X (World.re s.u s.w.tape d) (s.w.at d) := ⟨h.pz.size, h.pz.os, h.pz.out, h.pz.same, h.pz.bad⟩
    obtain ⟨w', es', e1, e2, e3, e4, e5⟩ := hs X (s.w.at d) hp fun _ _ _ => rfl
    have hnA : ¬ Alw P X (StopOf P T X Tg K cs) (G (l'.fr K) (frs K loc' ++ cs)) w' := fun ha => hd ⟨_, w', es', e1 K cs, e5, by
      rw [h.pz.size, e2.size]; exact hsz, ha⟩
    refine ⟨d, ⟨l', loc', u', w'⟩, ⟨hl', hc', e2, ?_, hnA⟩, ⟨hd1', hs⟩⟩
    -- from every tape
    intro t d'
    let tp : Nat → Question → Nat := fun i q => if i < u'.drawn - d then s.w.tape (d + i) q else t (d' + (i - (u'.drawn - d))) q
    obtain ⟨m, fr2, cs2, u2, q1, q2, q3⟩ := h.all tp 0
    cases m with
    | zero =>
      simp only [runN, Stepped.next.injEq] at q1
      obtain ⟨rfl, rfl, rfl⟩ := lone_inj q1
      exact absurd q3 (hno _ _)
    | succ m =>
      have est := StepA.re (P := P) (l := s.l) (loc := s.loc) (u := World.re s.u s.w.tape d) (u' := u') tp 0 hs hd1 (fun i q hi => by
        show s.w.tape (d + i) q = tp (0 + i) q
        have : i < u'.drawn - d := hi
        simp only [tp, Nat.zero_add, if_pos this])
      have est' : step P (lone (s.l.fr trapK) (frs trapK s.loc ++ [trap]) (World.re s.u tp 0)) = .next (lone (l'.fr trapK) (frs trapK loc' ++ [trap]) (World.re u' tp (0 + (u'.drawn - d)))) := est
      simp only [runN, est'] at q1
      have := reach_shift C R hT m (u := World.re u' tp (0 + (u'.drawn - d))) t d' hl' hc' q1 q2 q3 (fun i q => by
        show tp (0 + (u'.drawn - d) + i) q = _
        simp only [tp, Nat.zero_add]
        rw [if_neg (by omega)]
        congr 2
        omega)
      exact this

/-- The tape laid together of pieces. -/
theorem glue (c : Nat → Nat) (hc : ∀ k, c k ≤ c (k + 1)) (f : Nat → Nat → Question → Nat) : ∃ t : Nat → Question → Nat, ∀ k i q, c k + i < c (k + 1) → t (c k + i) q = f k i q := by
  have mono : ∀ j k, j ≤ k → c j ≤ c k := fun j k h => by
    induction h with
    | refl => exact Nat.le_refl _
    | step _ ih => exact Nat.le_trans ih (hc _)
  have uniq : ∀ j k p, c j ≤ p → p < c (j + 1) → c k ≤ p → p < c (k + 1) → j = k := by
    intro j k p h1 h2 h3 h4
    rcases Nat.lt_trichotomy j k with h | h | h
    · have := mono (j + 1) k h; omega
    · exact h
    · have := mono (k + 1) j h; omega
  classical
  refine ⟨fun p q => if h : ∃ k, c k ≤ p ∧ p < c (k + 1) then f (Classical.choose h) (p - c (Classical.choose h)) q else 0, fun k i q hi => ?_⟩
  have hex : ∃ j, c j ≤ c k + i ∧ c k + i < c (j + 1) := ⟨k, by omega, hi⟩
  have hch := Classical.choose_spec hex
  have e : Classical.choose hex = k := uniq _ _ _ hch.1 hch.2 (by omega) hi
  simp only [dif_pos hex]
  rw [e]
  congr 1
  omega

/-- ████ -/
theorem lift (C : Closed P T) (R : ResOk P T) {Tg : Frame → List Frame → World → Prop} (hT : TapeFree Tg) {l : Lo} {loc : List CLo} {u w : World} (hl : LoOk P T l) (hc : ∀ c ∈ loc, CLoOk P T c) (hp : Pz X u w)
    (h : ReachAll P Tg l loc u) (K : List Item) (cs : List Frame) : Alw P X (StopOf P T X Tg K cs) (G (l.fr K) (frs K loc ++ cs)) w := by
  apply Classical.byContradiction
  intro hn
  have h0 : Lost P T X Tg K cs ⟨l, loc, u, w⟩ := ⟨hl, hc, hp, h, hn⟩
  classical
  let Sub := { s : St // Lost P T X Tg K cs s }
  let nx : Sub → Sub := fun s => ⟨Classical.choose (Classical.choose_spec (lost_step C R hT s.2)), (Classical.choose_spec (Classical.choose_spec (lost_step C R hT s.2))).1⟩
  let dn : Sub → Nat := fun s => Classical.choose (lost_step C R hT s.2)
  have hst : ∀ s : Sub, StepTo P s.1 (dn s) (nx s).1 := fun s => (Classical.choose_spec (Classical.choose_spec (lost_step C R hT s.2))).2
  let sq : Nat → Sub := fun n => Nat.rec ⟨_, h0⟩ (fun _ s => nx s) n
  have sq0 : (sq 0).1 = ⟨l, loc, u, w⟩ := rfl
  have sqs : ∀ k, sq (k + 1) = nx (sq k) := fun k => rfl
  have hstep : ∀ k, StepTo P (sq k).1 (dn (sq k)) (sq (k + 1)).1 := fun k => by rw [sqs]; exact hst _
  let c : Nat → Nat := fun n => Nat.rec 0 (fun k x => x + ((sq (k + 1)).1.u.drawn - dn (sq k))) n
  have cs1 : ∀ k, c (k + 1) = c k + ((sq (k + 1)).1.u.drawn - dn (sq k)) := fun k => rfl
  obtain ⟨t, ht⟩ := glue c (fun k => by rw [cs1]; exact Nat.le_add_right _ _) fun k i q => (sq k).1.w.tape (dn (sq k) + i) q
  obtain ⟨n, fr, cs', u', r1, r2, r3⟩ := h t 0
  have key : ∀ k, k ≤ n → runN P k (lone (l.fr trapK) (frs trapK loc ++ [trap]) (World.re u t 0)) = .next (lone ((sq k).1.l.fr trapK) (frs trapK (sq k).1.loc ++ [trap]) (World.re (sq k).1.u t (c k))) := by
    intro k
    induction k with
    | zero => intro _; rfl
    | succ k ih =>
      intro hk
      have e := ih (by omega)
      have hs := hstep k
      have st := StepA.re (P := P) (l := (sq k).1.l) (loc := (sq k).1.loc) (l' := (sq (k + 1)).1.l) (loc' := (sq (k + 1)).1.loc) (u := World.re (sq k).1.u (sq k).1.w.tape (dn (sq k))) (u' := (sq (k + 1)).1.u) t (c k) hs.sim hs.le
        (fun i q hi => by
          have hi' : i < (sq (k + 1)).1.u.drawn - dn (sq k) := hi
          exact (ht k i q (by rw [cs1]; omega)).symm)
      have st' : step P (lone ((sq k).1.l.fr trapK) (frs trapK (sq k).1.loc ++ [trap]) (World.re (sq k).1.u t (c k))) = .next (lone ((sq (k + 1)).1.l.fr trapK) (frs trapK (sq (k + 1)).1.loc ++ [trap]) (World.re (sq (k + 1)).1.u t (c (k + 1)))) := st
      rw [runN_add, e]
      simp only [runN, st']
  have e := key n (Nat.le_refl _)
  rw [e] at r1
  simp only [Stepped.next.injEq] at r1
  obtain ⟨h1, h2, h3⟩ := lone_inj r1
  rw [← h1, ← h2, ← h3] at r3
  exact lost_noTg hT (sq n).2 _ _ r3
end
end

section
open Go.Conc
open Go.ConcN (sumTo upd sumTo_upd upd_ne upd_same)

/-- The cells of the shunned blocks. -/
def ShX (X : Nat → Prop) : Loc → Prop := fun l => ∃ a, l = .cell a ∧ X a.block

theorem ofEvent_mark (m : Mark) (wr sy : Bool) : MemAct.ofEvent ⟨.mark m, wr, sy⟩ = .mark m := by cases wr <;> cases sy <;> rfl
theorem good_evL {X : Nat → Prop} {n : Nat} {e : Event} (h : GoodE X n e) : EvL (ShX X) n e := by
  obtain ⟨loc, wr, sy⟩ := e
  rcases h with ⟨a, h1, h2, h3, _⟩ | ⟨r, h1, h2⟩ | h | ⟨f, h⟩
  · simp only at h1
    subst h1
    refine ⟨fun x hx hs => ?_, by simp, by simp, h3⟩
    obtain ⟨b, hb, hx'⟩ := hs
    simp only [MemAct.ofEvent, MemAct.touch?, Option.some.injEq] at hx
    subst hx
    cases hb
    exact absurd hx' h2
  · simp only at h1
    subst h1
    refine ⟨fun x hx hs => ?_, by simp, by simp, ?_⟩
    · obtain ⟨b, hb, hx'⟩ := hs
      cases wr <;> cases sy <;> simp only [MemAct.ofEvent, MemAct.touch?, Option.some.injEq, reduceCtorEq] at hx
      all_goals (subst hx; cases hb)
    · cases wr <;> cases sy <;> exact h2
  · simp only at h
    subst h
    refine ⟨fun x hx => ?_, by simp, by simp, ?_⟩
    · rw [ofEvent_mark] at hx; simp [MemAct.touch?] at hx
    · rw [ofEvent_mark]; trivial
  · simp only at h
    subst h
    refine ⟨fun x hx => ?_, by simp, by simp, ?_⟩
    · rw [ofEvent_mark] at hx; simp [MemAct.touch?] at hx
    · rw [ofEvent_mark]; trivial

theorem at_at (w : World) (d d' : Nat) : (w.at d).at d' = w.at d' := rfl

section
variable {P : Program} {X : Nat → Prop} {Stop : Goroutine → World → Prop}

theorem leavers_own {t : Trace} {gs : Array Goroutine} {q : Nat → Nat} (hL : Leavers P t gs q) (h0 : 0 < gs.size) {g a' : Goroutine} {w' : World} {es : Array Event} {fn : FuncId} {pos : String} :
    Leavers P (t ++ MemOp.ofEvents 0 fn pos es) ((gs.map (woken P g a' w')).setIfInBounds 0 a') q := by
  refine ⟨fun j x hj hx => ?_, fun j hj => ?_⟩
  · have hne : 0 ≠ j := by omega
    rw [Array.getElem?_setIfInBounds_ne hne, Array.getElem?_map] at hx
    obtain ⟨y, hy, rfl⟩ := Option.map_eq_some_iff.1 hx
    have hq := hL.old j y hj hy
    rw [woken_quitsD hq, Deaf_other t (by omega) _ (fun op hop => by obtain ⟨e, _, rfl⟩ := Conc.mem_ofEvents hop; rfl)]
    exact hq
  · rw [Deaf_other t (g' := 0) (by simp at hj; omega) _ (fun op hop => by obtain ⟨e, _, rfl⟩ := Conc.mem_ofEvents hop; rfl)]
    exact hL.above j (by simpa using hj)

theorem leavers_slip {t : Trace} {gs : Array Goroutine} {q : Nat → Nat} (hL : Leavers P t gs q) {i k : Nat} (hlt : i < gs.size) {g g' : Goroutine} {w' : World} {es : Array Event} {fn : FuncId} {pos : String}
    (hq' : QuitsD P k (deafBehind (Deaf t i) es) g') : Leavers P (t ++ MemOp.ofEvents i fn pos es) ((gs.map (woken P g g' w')).setIfInBounds i g') (upd q i k) := by
  refine ⟨fun j x hj hx => ?_, fun j hj => ?_⟩
  · by_cases hji : i = j
    · subst hji
      rw [Array.getElem?_setIfInBounds_self_of_lt (by simpa using hlt)] at hx
      obtain rfl := Option.some.inj hx
      rw [upd_same, Deaf_own]
      exact hq'
    · rw [Array.getElem?_setIfInBounds_ne hji, Array.getElem?_map] at hx
      obtain ⟨y, hy, rfl⟩ := Option.map_eq_some_iff.1 hx
      have hqj := hL.old j y hj hy
      rw [woken_quitsD hqj, upd_ne q k (Ne.symm hji), Deaf_other t hji _ (fun op hop => by obtain ⟨e, _, rfl⟩ := Conc.mem_ofEvents hop; rfl)]
      exact hqj
  · rw [Deaf_other t (g' := i) (by simp at hj; omega) _ (fun op hop => by obtain ⟨e, _, rfl⟩ := Conc.mem_ofEvents hop; rfl)]
    exact hL.above j (by simpa using hj)

theorem leavers_awake {t : Trace} {gs : Array Goroutine} {q : Nat → Nat} (hL : Leavers P t gs q) {a : Goroutine} (h0 : gs[0]? = some a) (hrun : a.status = .running) : ∀ g ∈ gs, awake g := by
  intro g hg
  obtain ⟨i, hi, rfl⟩ := Array.mem_iff_getElem.1 hg
  rcases Nat.eq_zero_or_pos i with rfl | hpos
  · have : gs[0] = a := by simpa [Array.getElem?_eq_getElem hi] using h0
    rw [this]; exact awake_of (.inl hrun)
  · exact awake_of ((hL.old i _ hpos (Array.getElem?_eq_getElem hi)).status.elim .inl fun x => .inr (.inr x))

theorem alw_beside {a : Goroutine} {w : World} (h : Alw P X Stop a w) : ∀ (gs : Array Goroutine) (sl : Option (Nat × Nat)) (t : Trace) (q : Nat → Nat), gs[0]? = some a → Leavers P t gs q → Past (ShX X) w.heap.size t →
    ∃ (N : Nat) (gs' : Array Goroutine) (a' : Goroutine) (w' : World) (sl' : Option (Nat × Nat)) (t' : Trace) (q' : Nat → Nat),
      runNT P N (crowd gs w sl) t = (.next (crowd gs' w' sl'), t') ∧ gs'.size = gs.size ∧ gs'[0]? = some a' ∧ Stop a' w' ∧ Leavers P t' gs' q' ∧ Past (ShX X) w'.heap.size t' := by
  induction h with
  | @stop a w hs => exact fun gs sl t q h0 hL hP => ⟨0, gs, a, w, sl, t, q, rfl, rfl, h0, hs w.drawn, hL, hP⟩
  | @step a w hrun hst _ ih =>
    have inner : ∀ (M : Nat) (gs : Array Goroutine) (d0 : Nat) (sl : Option (Nat × Nat)) (t : Trace) (q : Nat → Nat), sumTo gs.size q < M → gs[0]? = some a → Leavers P t gs q → Past (ShX X) w.heap.size t →
        ∃ (N : Nat) (gs' : Array Goroutine) (a' : Goroutine) (w' : World) (sl' : Option (Nat × Nat)) (t' : Trace) (q' : Nat → Nat),
          runNT P N (crowd gs (w.at d0) sl) t = (.next (crowd gs' w' sl'), t') ∧ gs'.size = gs.size ∧ gs'[0]? = some a' ∧ Stop a' w' ∧ Leavers P t' gs' q' ∧ Past (ShX X) w'.heap.size t' := by
      intro M
      induction M with
      | zero => intro gs d0 sl t q hM; omega
      | succ M ihM =>
        intro gs d0 sl t q hM h0 hL hP
        have hlt0 : 0 < gs.size := (Array.getElem?_eq_some_iff.1 h0).1
        obtain ⟨i, g, d, sl', hi, hg, hpk⟩ := crowd_pick (P := P) (w := w.at d0) (sl := sl) (leavers_awake hL h0 hrun) ⟨0, a, h0, hrun⟩
        rcases Nat.eq_zero_or_pos i with rfl | hpos
        · obtain rfl : g = a := by rw [h0] at hi; exact (Option.some.inj hi).symm
          obtain ⟨g', w', es, hgo, hes, hsz⟩ := hst d
          have hrunT := runT_crowd_go (P := P) (sl := sl') (i := 0) hi (show stepG P (0 == 0) g ((w.at d0).at d) = _ from hgo)
          have hszg : ((gs.map (woken P g g' w')).setIfInBounds 0 g').size = gs.size := by simp
          obtain ⟨N, gs', a'', w'', sl'', t', q', hr, hs', h0', hS, hL', hP'⟩ := ih d g' w' es hgo ((gs.map (woken P g g' w')).setIfInBounds 0 g') sl' (t ++ MemOp.ofEvents 0 g.frame.fn g.frame.place es) q (by simp [hlt0])
            (leavers_own hL hlt0) ((hP.mono hsz).own fun e he => good_evL (hes e he))
          exact ⟨N + 1, gs', a'', w'', sl'', t', q', by simp only [runNT, hpk, hrunT]; exact hr, hs'.trans hszg, h0', hS, hL', hP'⟩
        · have hq := hL.old i g hpos hi
          have hi0 : (i == 0) = false := by simp; omega
          have hlt : i < gs.size := (Array.getElem?_eq_some_iff.1 hi).1
          cases hqi : q i with
          | zero => rw [hqi] at hq; rw [hq.1] at hg; cases hg
          | succ k =>
            rw [hqi] at hq
            rcases hq with ⟨hf, _⟩ | ⟨_, g', es, hm, hstp, hq'⟩
            · rw [hf] at hg; cases hg
            have hrunT := runT_crowd_go (P := P) (sl := sl') (i := i) hi (by rw [hi0]; exact hstp ((w.at d0).at d))
            have hszg : ((gs.map (woken P g g' ((w.at d0).at d))).setIfInBounds i g').size = gs.size := by simp
            have hsum : sumTo gs.size (upd q i k) + (k + 1) = sumTo gs.size q + k := by
              have := sumTo_upd q k id hlt
              simpa [hqi] using this
            obtain ⟨N, gs', a'', w'', sl'', t', q', hr, hs', h0', hS, hL', hP'⟩ := ihM ((gs.map (woken P g g' ((w.at d0).at d))).setIfInBounds i g') d sl' (t ++ MemOp.ofEvents i g.frame.fn g.frame.place es) (upd q i k) (by rw [hszg]; omega)
              (by
                have hne : i ≠ 0 := by omega
                rw [Array.getElem?_setIfInBounds_ne hne, Array.getElem?_map, h0]
                simp [woken_run hrun])
              (leavers_slip hL hlt hq') (hP.mute (by omega) hm)
            exact ⟨N + 1, gs', a'', w'', sl'', t', q', by simp only [runNT, hpk, hrunT]; exact hr, hs'.trans hszg, h0', hS, hL', hP'⟩
    exact fun gs sl t q h0 hL hP => inner _ gs w.drawn sl t q (Nat.lt_succ_self _) h0 hL hP
end
end
end Go.Proofs.Ytnifgfnhcjhodaa
