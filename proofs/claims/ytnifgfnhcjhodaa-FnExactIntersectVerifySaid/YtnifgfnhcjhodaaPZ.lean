/- XPZ: several texts in one. Conditions: each lemma's own. -/
import Derived.Test.YtnifgfnhcjhodaaPY


import Derived.Test.YtnifgfnhcjhodaaPW

import Derived.Test.YtnifgfnhcjhodaaChecked

import Derived.Test.YtnifgfnhcjhodaaPJ
import Derived.Test.YtnifgfnhcjhodaaW4
namespace Go.Proofs.Ytnifgfnhcjhodaa
set_option linter.unusedVariables false
set_option linter.unusedSimpArgs false
section
open Go.Conc Go.ConcN

section
variable {P : Program} {T : Tame} {X : Nat → Prop} {S S' : Goroutine → World → Prop} {g g' : Goroutine} {w : World}

theorem Alw.bind (h : Alw P X S g w) (hk : ∀ g w, S g w → Alw P X S' g w) : Alw P X S' g w := by
  induction h with
  | @stop g w hs => exact hk g w (hs w.drawn)
  | step hr h1 _ ih => exact .step hr h1 fun d g' w' es he => ih d g' w' es he
theorem Alw.mono (h : Alw P X S g w) (hk : ∀ g w, S g w → S' g w) : Alw P X S' g w := by
  induction h with
  | @stop g w hs => exact .stop fun d => hk _ _ (hs d)
  | step hr h1 _ ih => exact .step hr h1 fun d g' w' es he => ih d g' w' es he
/-- A step of control. -/
theorem Alw.ctl (hs : g.status = .running) (h : ∀ w, stepG P true g w = .go g' w #[]) (hk : ∀ d, Alw P X S g' (w.at d)) : Alw P X S g w :=
  .step hs (fun d => ⟨g', w.at d, #[], h _, by simp, Nat.le_refl _⟩) fun d g'' w' es he => by
    rw [h] at he
    cases he
    exact hk d

variable {b : Frame} {a : Act} {k : List Item} {cs : List Frame} {ops : Array Oper} {i : Nat} {rest : List Nat} {oo : Oper}
/-- An operation. -/
theorem Alw.op (ho : ops[i]? = some oo) (hw : Region.wanted oo (yielded ops a.tmps) = true) (hk : b.kind ≠ .early)
    (h : ∀ d, ∃ v w', ((execOp a.eval oo).run P (w.at d) = .ok (.value v) w' ∨ ((execOp a.eval oo).run P (w.at d) = .ok .skip w' ∧ v = undef)) ∧ (∀ e ∈ (execOp a.eval oo).events P (w.at d) #[], GoodE X w'.heap.size e) ∧ w.heap.size ≤ w'.heap.size ∧
      Alw P X S (G (b.at (a.put oo.dst v) (.inRegion ops rest :: k)) cs) w') : Alw P X S (G (b.at a (.inRegion ops (i :: rest) :: k)) cs) w := by
  have key : ∀ d, ∃ v w', stepG P true (G (b.at a (.inRegion ops (i :: rest) :: k)) cs) (w.at d) = .go (G (b.at (a.put oo.dst v) (.inRegion ops rest :: k)) cs) w' (listed P b.fn a oo (w.at d)) ∧ (∀ e ∈ listed P b.fn a oo (w.at d), GoodE X w'.heap.size e) ∧ w.heap.size ≤ w'.heap.size ∧
      Alw P X S (G (b.at (a.put oo.dst v) (.inRegion ops rest :: k)) cs) w' := fun d => by
    obtain ⟨v, w', hr, he, hs, hg⟩ := h d
    rcases hr with hr | ⟨hr, rfl⟩
    · exact ⟨v, w', stepG_value ho hw hk hr, fun e hm => he e (mem_listed hm), hs, hg⟩
    · exact ⟨undef, w', stepG_none ho hw hk hr, fun e hm => he e (mem_listed hm), hs, hg⟩
  refine .step rfl (fun d => let ⟨v, w', h1, h2, h3, _⟩ := key d; ⟨_, w', _, h1, h2, h3⟩) fun d g' w1 es he => ?_
  obtain ⟨v, w', h1, h2, h3, h4⟩ := key d
  rw [h1] at he
  cases he
  exact h4
/-- An operation that turns no memory and lists nothing. -/
theorem Alw.val {v : Value} (ho : ops[i]? = some oo) (hw : Region.wanted oo (yielded ops a.tmps) = true) (hk : b.kind ≠ .early) (h : ∀ w, (execOp a.eval oo).run P w = .ok (.value v) w ∧ (execOp a.eval oo).events P w #[] = #[])
    (hg : ∀ d, Alw P X S (G (b.at (a.put oo.dst v) (.inRegion ops rest :: k)) cs) (w.at d)) : Alw P X S (G (b.at a (.inRegion ops (i :: rest) :: k)) cs) w :=
  Alw.op ho hw hk fun d => ⟨v, w.at d, .inl (h _).1, fun e he => (by rw [(h _).2] at he; simp at he), Nat.le_refl _, hg d⟩
/-- An operation that is not wanted. -/
theorem Alw.skip (ho : ops[i]? = some oo) (hw : Region.wanted oo (yielded ops a.tmps) = false) (hg : ∀ d, Alw P X S (G (b.at (a.put oo.dst undef) (.inRegion ops rest :: k)) cs) (w.at d)) : Alw P X S (G (b.at a (.inRegion ops (i :: rest) :: k)) cs) w :=
  Alw.ctl rfl (fun w => stepG_unwanted ho hw) hg

theorem results_none {fn : Func} (h : ∀ r ∈ fn.results, ∃ t, r = .tmp t) (tmps : Array Value) : (∃ v, ∀ w, (results fn tmps).run P w = .ok v w) ∧ ∀ w, (results fn tmps).events P w #[] = #[] := by
  obtain ⟨v, hv⟩ := results_pure h tmps
  exact ⟨⟨v, fun w => by rw [hv]; rfl⟩, fun w => by rw [hv]; rfl⟩

theorem fit_again {α : Type} {s : Sem α} (hs : Fit P s) {u : World} {x : α} (h : s.run P u = .ok x u) {X : Nat → Prop} {w : World} (hp : Pz X u w) : ∃ w', s.run P w = .ok x w' ∧ Pz X u w' ∧ w'.tape = w.tape ∧ w'.drawn = w.drawn ∧ ∀ e ∈ s.events P w #[], GoodE X w'.heap.size e := by
  obtain ⟨_, h2⟩ := hs.sim hp h
  obtain ⟨w', r1, r2, r3, r4, r5⟩ := h2 (fun i q hi => by omega)
  exact ⟨w', r1, r2, r3, by omega, fun e he => (r5 #[] e he).resolve_left (by simp)⟩
theorem results_re {fn : Func} {tmps : Array Value} {u : World} {v : Value} (h : (results fn tmps).run P u = .ok v u) (t : Nat → Question → Nat) (d : Nat) : (results fn tmps).run P (World.re u t d) = .ok v (World.re u t d) := by
  obtain ⟨w', r1, r2, r3, r4, _⟩ := fit_again (fit_results fn tmps) h (X := fun _ => False) (w := World.re u t d) ⟨rfl, rfl, rfl, fun _ _ => rfl, fun _ h => h.elim⟩
  have e := pz_none r2
  rw [r3, r4] at e
  rw [e] at r1
  exact r1
theorem Pz.at {u : World} (h : Pz X u w) (d : Nat) : Pz X u (w.at d) := ⟨h.size, h.os, h.out, h.same, h.bad⟩
/-- Out of a function, the results read where they lie. -/
theorem Alw.leaveS {f : FuncId} {fn : Func} {a : Act} {todo : List Item} {c : Frame} {v : Value} {u : World} (hp : Pz X u w) (h1 : P.funcs[f]? = some fn) (hd : a.defers = []) (hv : (results fn a.tmps).run P u = .ok v u)
    (hk : ∀ w', Pz X u w' → Alw P X S (G (c.finish v) cs) w') : Alw P X S (G { (base f).at a todo with mode := .returning } (c :: cs)) w := by
  have key : ∀ d, ∃ w', stepG P true (G { (base f).at a todo with mode := .returning } (c :: cs)) (w.at d) = .go (G (c.finish v) cs) w' (seen P f ((results fn a.tmps).events P (w.at d) #[])) ∧
      (∀ e ∈ seen P f ((results fn a.tmps).events P (w.at d) #[]), GoodE X w'.heap.size e) ∧ w.heap.size ≤ w'.heap.size ∧ Pz X u w' := fun d => by
    obtain ⟨w', r1, r2, r3, r4, r5⟩ := fit_again (fit_results fn a.tmps) hv (hp.at d)
    exact ⟨w', stepG_leaveS rfl hd h1 r1, fun e he => r5 e (mem_seen he), by rw [hp.size, r2.size]; exact Nat.le_refl _, r2⟩
  refine .step rfl (fun d => let ⟨w', e1, e2, e3, _⟩ := key d; ⟨_, w', _, e1, e2, e3⟩) fun d g' w1 es he => ?_
  obtain ⟨w2, e1, e2, e3, e4⟩ := key d
  rw [e1] at he
  cases he
  exact hk _ e4
/-- A call of a sequential function, by its lone contract. -/
theorem Alw.call (C : Closed P T) (R : ResOk P T) {f : FuncId} {args : Array Value} {c : Frame} (hf : T.S f = true) (hK : KnA T f args) {u : World} (hp : Pz X u w) {Post : Value → World → Prop} (hPost : ∀ v u t d, Post v u → Post v (World.re u t d))
    (hc : ∀ t d, Calls P f args (World.re u t d) fun | .returned v, w' => Post v w' | _, _ => False)
    (hk : ∀ v u' w', Pz X u' w' → Post v u' → Alw P X S (G (c.finish v) cs) w') : Alw P X S (G (Frame.enter P f args .normal) (c :: cs)) w := by
  obtain ⟨fn, cd, h1, h2, h3, h4⟩ := C.fn f hf
  have hent : Frame.enter P f args .normal = Lo.fr trapK ⟨f, args ++ Array.replicate (fn.ntmps - args.size) undef, [.code cd], false, false⟩ := by
    simp [Frame.enter, Frame.at, h1, h3, Lo.fr, base, tl]
  have hl : LoOk P T ⟨f, args ++ Array.replicate (fn.ntmps - args.size) undef, [.code cd], false, false⟩ := by
    refine ⟨C.sm f hf, fun x hx => kn_enter _ (hK x hx), fun it hi => ?_⟩
    rw [List.mem_singleton] at hi
    subst hi
    exact h4
  let Tg : Frame → List Frame → World → Prop := fun fr cs' u' => cs' = [] ∧ fr.fn = f ∧ ∃ v, fr.leaving P u' (.returned v) ∧ Post v u'
  have hT : TapeFree Tg := by
    rintro fr cs' u' t d ⟨rfl, q0, v, ⟨q1, q2, q3, fn', q4, q5⟩, hv⟩
    exact ⟨rfl, q0, v, ⟨q1, q2, q3, fn', q4, results_re q5 t d⟩, hPost _ _ _ _ hv⟩
  have hr : ReachAll P Tg ⟨f, args ++ Array.replicate (fn.ntmps - args.size) undef, [.code cd], false, false⟩ [] u := by
    intro t d
    obtain ⟨e, w', fr, hR, hcomes, hfn, hlv⟩ := hc t d [trap]
    cases e with
    | returned v =>
      obtain ⟨n, hn⟩ := hcomes
      refine ⟨n, fr, [], w', ?_, fun ch e => ?_, rfl, hfn, v, hlv, hR⟩
      · rw [← hent]; exact hn
      · rw [hlv.1] at e; cases e
    | panicked ch => exact hR.elim
    | outgrown => exact hR.elim
  have L := lift C R hT hl (loc := []) (by simp) hp hr [] (c :: cs)
  have hent2 : Frame.enter P f args .normal = Lo.fr [] ⟨f, args ++ Array.replicate (fn.ntmps - args.size) undef, [.code cd], false, false⟩ := by
    simp [Frame.enter, Frame.at, h1, h3, Lo.fr, base, tl]
  rw [← hent2] at L
  refine Alw.bind L fun g w' hS => ?_
  obtain ⟨l, loc, u', hl', _, rfl, hp', hloc, hfn, v, hlv, hv⟩ := hS
  have hl0 : loc = [] := by
    cases loc with
    | nil => rfl
    | cons x loc => cases hloc
  subst hl0
  obtain ⟨lf, tmps, todo, ret, bot⟩ := l
  cases ret with
  | false => exact absurd hlv.1 (by simp [Lo.fr, Frame.at, base])
  | true =>
    have e : lf = f := hfn
    subst e
    obtain ⟨_, _, _, fn', q4, q5⟩ := hlv
    have e2 : fn' = fn := Option.some.inj (q4.symm.trans h1)
    subst e2
    exact Alw.leaveS (todo := tl [] bot todo) hp' h1 rfl q5 fun w2 hp2 => hk v u' w2 hp2 hv

/-- What a stretch may end with. -/
def SegQ (N Rt : Act → World → Prop) : Exit → Act → World → Prop
  | .normal, a, w => N a w
  | .ret, a, w => Rt a w
  | _, _, _ => False
theorem SegQ.normal {N Rt : Act → World → Prop} {a : Act} {w : World} (h : N a w) : SegQ N Rt .normal a w := h
theorem SegQ.ret {N Rt : Act → World → Prop} {a : Act} {w : World} (h : Rt a w) : SegQ N Rt .ret a w := h

/-- A stretch, from items that are sequential. -/
theorem Alw.stretch (C : Closed P T) (R : ResOk P T) {f : FuncId} {a : Act} {items K : List Item} (hf : T.M f = true) (hK : Kn T f a.tmps) (hd : a.defers = []) (hi : ∀ it ∈ items, itemOk P T f it = true) {u : World} (hp : Pz X u w)
    {N Rt : Act → World → Prop} (hN : ∀ a u t d, N a u → N a (World.re u t d)) (hRt : ∀ a u t d, Rt a u → Rt a (World.re u t d))
    (h : ∀ t d, ∃ e a' w', SegQ N Rt e a' w' ∧ Arrives P (lone ((base f).at a (items ++ trapK)) [trap] (World.re u t d)) (base f) trapK [trap] e a' w')
    (hn : ∀ a' u' w', Pz X u' w' → N a' u' → Alw P X S (G ((base f).at a' K) cs) w')
    (hr : ∀ a' u' w' todo, a'.defers = [] → Pz X u' w' → Rt a' u' → Alw P X S (G { (base f).at a' todo with mode := .returning } cs) w') : Alw P X S (G ((base f).at a (items ++ K)) cs) w := by
  have ea : a = ⟨a.tmps, []⟩ := by cases a; cases hd; rfl
  have hent : ∀ K, (base f).at a (items ++ K) = Lo.fr K ⟨f, a.tmps, items, false, true⟩ := fun K => by
    have : tl K true items = items ++ K := by have := tl_app (K := K) (bot := true) items []; rw [List.append_nil] at this; exact this
    show _ = (base f).at ⟨a.tmps, []⟩ (tl K true items)
    rw [this, ← ea]
  have hl : LoOk P T ⟨f, a.tmps, items, false, true⟩ := ⟨hf, hK, hi⟩
  let Tg : Frame → List Frame → World → Prop := fun fr cs' u' => cs' = [] ∧ fr.fn = f ∧ fr.kind = .normal ∧ ((fr.mode = .run ∧ fr.todo = trapK ∧ N ⟨fr.tmps, fr.defers⟩ u') ∨ (fr.mode = .returning ∧ Rt ⟨fr.tmps, fr.defers⟩ u'))
  have hT : TapeFree Tg := by
    rintro fr cs' u' t d ⟨h1, h2, h3, h4⟩
    exact ⟨h1, h2, h3, h4.imp (fun x => ⟨x.1, x.2.1, hN _ _ _ _ x.2.2⟩) fun x => ⟨x.1, hRt _ _ _ _ x.2⟩⟩
  have hre : ReachAll P Tg ⟨f, a.tmps, items, false, true⟩ [] u := by
    intro t d
    obtain ⟨e, a', w', hq, har⟩ := h t d
    rw [hent] at har
    cases e with
    | normal =>
      obtain ⟨n, hn⟩ := har
      exact ⟨n, _, [], w', hn, fun ch e => by simp [Frame.at] at e, rfl, rfl, rfl, .inl ⟨rfl, rfl, hq⟩⟩
    | ret =>
      obtain ⟨todo, n, hn⟩ := har
      exact ⟨n, _, [], w', hn, fun ch e => by simp [Frame.at] at e, rfl, rfl, rfl, .inr ⟨rfl, hq⟩⟩
    | _ => exact hq.elim
  have L := lift C R hT hl (loc := []) (by simp) hp hre K cs
  rw [← hent] at L
  refine Alw.bind L fun g w' hS => ?_
  obtain ⟨l, loc, u', hl', _, rfl, hp', hloc, hfn, _, hq⟩ := hS
  have hl0 : loc = [] := by
    cases loc with
    | nil => rfl
    | cons x loc => cases hloc
  subst hl0
  obtain ⟨lf, tmps, todo, ret, bot⟩ := l
  cases ret with
  | false =>
    have e : lf = f := hfn
    subst e
    rcases hq with ⟨_, htd, hq⟩ | ⟨hm, _⟩
    · have htd : tl trapK bot todo = trapK := htd
      have key : bot = true ∧ todo = [] := by
        cases todo with
        | nil => cases bot with
          | true => exact ⟨rfl, rfl⟩
          | false => cases htd
        | cons x k =>
          simp only [tl, trapK, List.cons.injEq] at htd
          have := hl'.todo x (by simp)
          rw [htd.1] at this
          cases this
      obtain ⟨rfl, rfl⟩ := key
      exact hn ⟨tmps, []⟩ u' w' hp' hq
    · cases hm
  | true =>
    have e : lf = f := hfn
    subst e
    rcases hq with ⟨hm, _⟩ | ⟨_, hq⟩
    · cases hm
    · exact hr ⟨tmps, []⟩ u' w' _ rfl hp' hq

/-- A stretch of code. -/
theorem Alw.seg (C : Closed P T) (R : ResOk P T) {f : FuncId} {a : Act} {cd : Code} {K : List Item} (hf : T.M f = true) (hK : Kn T f a.tmps) (hd : a.defers = []) (hi : codeOk P T f cd = true) {u : World} (hp : Pz X u w)
    {N Rt : Act → World → Prop} (hN : ∀ a u t d, N a u → N a (World.re u t d)) (hRt : ∀ a u t d, Rt a u → Rt a (World.re u t d)) (h : ∀ t d, cd.wp P (SegQ N Rt) a (World.re u t d))
    (hn : ∀ a' u' w', Pz X u' w' → N a' u' → Alw P X S (G ((base f).at a' K) cs) w')
    (hr : ∀ a' u' w' todo, a'.defers = [] → Pz X u' w' → Rt a' u' → Alw P X S (G { (base f).at a' todo with mode := .returning } cs) w') : Alw P X S (G ((base f).at a (.code cd :: K)) cs) w :=
  Alw.stretch (items := [.code cd]) C R hf hK hd (fun it hm => by rw [List.mem_singleton] at hm; subst hm; exact hi) hp hN hRt (fun t d => h t d (base f) trapK [trap]) hn hr
/-- The rest of a region. -/
theorem Alw.oprest (C : Closed P T) (R : ResOk P T) {f : FuncId} {a : Act} {ops : Array Oper} {l : List Nat} {K : List Item} (hf : T.M f = true) (hK : Kn T f a.tmps) (hd : a.defers = []) (hi : l.all (opAt P T f ops) = true) {u : World} (hp : Pz X u w)
    {N : Act → World → Prop} (hN : ∀ a u t d, N a u → N a (World.re u t d)) (h : ∀ t d, wpOps P ops (SegQ N fun _ _ => False) l a (World.re u t d))
    (hn : ∀ a' u' w', Pz X u' w' → N a' u' → Alw P X S (G ((base f).at a' K) cs) w') : Alw P X S (G ((base f).at a (.inRegion ops l :: K)) cs) w :=
  Alw.stretch (items := [.inRegion ops l]) C R hf hK hd (fun it hm => by rw [List.mem_singleton] at hm; subst hm; exact hi) hp hN (Rt := fun _ _ => False) (fun _ _ _ _ h => h) (fun t d => wp_ops l a _ (h t d) (base f) trapK [trap]) hn (fun _ _ _ _ _ _ h => h.elim)
/-- Out of a function. -/
theorem Alw.leave {f : FuncId} {fn : Func} {a : Act} {todo : List Item} {c : Frame} {v : Value} (h1 : P.funcs[f]? = some fn) (hd : a.defers = []) (hv : results fn a.tmps = pure v) (hk : ∀ d, Alw P X S (G (c.finish v) cs) (w.at d)) :
    Alw P X S (G { (base f).at a todo with mode := .returning } (c :: cs)) w :=
  Alw.ctl rfl (fun w => stepG_leave (b := base f) (a := a) (todo := todo) (c := c) (cs := cs) (fn := fn) (v := v) rfl hd h1 (by rw [hv]; rfl) (by rw [hv]; rfl)) hk
end
end

section
open Go.Conc Go.ConcN

/-- The blocks of X are cells. -/
def CellsX (X : Nat → Prop) (w : World) : Prop := ∀ b, X b → ∃ c t, w.heap[b]? = some (.cells c t)
open Classical in
noncomputable def World.pz (X : Nat → Prop) (w : World) : World :=
  { w with heap := w.heap.mapIdx fun b o => if X b then (match o with | .cells _ t fz => .cells #[] t fz | o => o) else o }
theorem pz_of {X : Nat → Prop} {w : World} (h : CellsX X w) : Pz X (World.pz X w) w := by
  refine ⟨by simp [World.pz], rfl, rfl, fun b hb => ?_, fun b hb => ?_⟩
  · simp only [World.pz, Array.getElem?_mapIdx]
    cases w.heap[b]? with
    | none => rfl
    | some o => simp [hb]
  · obtain ⟨c, t, hc⟩ := h b hb
    refine ⟨c, t, hc, ?_⟩
    simp only [World.pz, Array.getElem?_mapIdx, hc]
    simp [hb]
theorem pz_cell {X : Nat → Prop} {u w : World} (h : Pz X u w) {a : Addr} (ha : ¬ X a.block) : u.cell? a = w.cell? a := (World.cell?_of_block (h.same _ ha)).symm

/-- Goroutine 0 comes from here to Q, from whatever frame to a frame. -/
def Gto (P : Program) (X : Nat → Prop) (g : Goroutine) (w : World) (Q : (Nat → Prop) → Goroutine → World → Prop) : Prop :=
  ∀ (gs : Array Goroutine) (sl : Option (Nat × Nat)) (t : Trace) (q : Nat → Nat), gs[0]? = some g → Fr P X gs w t q →
    ∃ (N : Nat) (gs' : Array Goroutine) (g' : Goroutine) (w' : World) (sl' : Option (Nat × Nat)) (t' : Trace) (q' : Nat → Nat) (X' : Nat → Prop),
      runNT P N (crowd gs w sl) t = (.next (crowd gs' w' sl'), t') ∧ gs'[0]? = some g' ∧ Fr P X' gs' w' t' q' ∧ Q X' g' w'

section
variable {P : Program} {X X' : Nat → Prop} {S : Goroutine → World → Prop} {Q Q' : (Nat → Prop) → Goroutine → World → Prop} {g : Goroutine} {w : World}
theorem Gto.here (h : Q X g w) : Gto P X g w Q := fun gs sl t q h0 hF => ⟨0, gs, g, w, sl, t, q, X, rfl, h0, hF, h⟩
theorem Gto.bind (h : Gto P X g w Q) (hk : ∀ X' g' w', Q X' g' w' → Gto P X' g' w' Q') : Gto P X g w Q' := by
  intro gs sl t q h0 hF
  obtain ⟨N, gs1, g1, w1, sl1, t1, q1, X1, r1, h1, F1, hQ⟩ := h gs sl t q h0 hF
  obtain ⟨M, gs2, g2, w2, sl2, t2, q2, X2, r2, h2, F2, hQ2⟩ := hk X1 g1 w1 hQ gs1 sl1 t1 q1 h1 F1
  exact ⟨N + M, gs2, g2, w2, sl2, t2, q2, X2, by rw [runNT_add, r1]; exact r2, h2, F2, hQ2⟩
theorem Gto.mono (h : Gto P X g w Q) (hk : ∀ X' g' w', Q X' g' w' → Q' X' g' w') : Gto P X g w Q' := h.bind fun X' g' w' hQ => .here (hk X' g' w' hQ)
theorem Gto.of_alw (h : Alw P X S g w) (hk : ∀ g' w', S g' w' → Gto P X g' w' Q) : Gto P X g w Q := by
  intro gs sl t q h0 hF
  obtain ⟨N, gs1, g1, w1, sl1, t1, q1, r1, _, h1, hS, F1⟩ := alw_fr h gs sl t q h0 hF
  obtain ⟨M, gs2, g2, w2, sl2, t2, q2, X2, r2, h2, F2, hQ2⟩ := hk g1 w1 hS gs1 sl1 t1 q1 h1 F1
  exact ⟨N + M, gs2, g2, w2, sl2, t2, q2, X2, by rw [runNT_add, r1]; exact r2, h2, F2, hQ2⟩
/-- More is shunned: blocks that are yet to be made. -/
theorem Gto.wide (h1 : ∀ b, X b → X' b) (h2 : ∀ b, X' b → X b ∨ w.heap.size ≤ b) (h : Gto P X' g w Q) : Gto P X g w Q := fun gs sl t q h0 hF => h gs sl t q h0 (hF.wide h1 h2)
end

section
open Go.ConcR (WgAt)
variable {c : CS} {w : World} {cs : List Frame}
/-- The phase of impl.common, as a stretch. -/
theorem Gto.phase (K : CSOk c) (hX : ∀ b, c.X b → b < c.L.N ∧ b ≠ c.L.C) (hW : c.X c.L.Wg) {T : Array Value} (hs : T.size = 24) (h0 : T.getD 0 undef = .slice c.xa c.L.n c.cx) (h3 : T.getD 3 undef = .pointer (some ⟨c.Yb, 0, none⟩))
    (h5 : T.getD 5 undef = .pointer (some ⟨c.Rb, 0, none⟩)) (h6 : T.getD 6 undef = .pointer (some ⟨c.L.Wg, 0, none⟩)) (hF : SF c w) (hwg : WgAt 81 c.L.Wg w 0 0) (hz : ∀ i, i < c.L.n → w.cell? ⟨c.L.C, i, none⟩ = some (.slice none 0 0)) :
    Gto Try.prog c.X (G (b32.at ⟨T, []⟩ [.code tail32]) cs) w fun X' g' w' => X' = c.X ∧ ∃ (A : Act) (O : Nat → List Nat) (o0 : List Nat),
      g' = G (b32.at A [.inRegion q9 [], .code (.seq (.region 10 q10 false) .ret)]) cs ∧ A.defers = [] ∧ Sx c c.L.n A.tmps ∧ SF c w' ∧ WgAt 81 c.L.Wg w' 0 0 ∧ Lists c.L c.L.n O o0 w'.heap.size ∧ ∀ i, i < c.L.n → FinC (c.wc i 0 0) (O i) w' := by
  intro gs sl t q hg hFr
  obtain ⟨N, gs', w', sl', t', q', A, O, o0, r1, r2, r3, r4, r5, r6, r7, r8, r9⟩ := common_phase (sl := sl) K hX hW hFr hg hs h0 h3 h5 h6 hF hwg hz
  exact ⟨N, gs', _, w', sl', t', q', c.X, r1, r2, r6, rfl, A, O, o0, rfl, r3, r4, r5, r7, r8, r9⟩
end
end

section
open Go.Conc Go.ConcN

/-- What was there stands; what is new lies behind it. -/
structure Gx (u u' : World) : Prop where
  os : u'.os = u.os
  out : u'.output = u.output
  size : u.heap.size ≤ u'.heap.size
  block : ∀ i, i < u.heap.size → u'.heap[i]? = u.heap[i]?
theorem Gx.refl (u : World) : Gx u u := ⟨rfl, rfl, Nat.le_refl _, fun _ _ => rfl⟩
theorem Gx.trans {a b c : World} (h : Gx a b) (k : Gx b c) : Gx a c := ⟨k.os.trans h.os, k.out.trans h.out, Nat.le_trans h.size k.size, fun i hi => (k.block i (Nat.lt_of_lt_of_le hi h.size)).trans (h.block i hi)⟩
theorem Gx.of_ext {u u' : World} (h : Ext none u u') : Gx u u' := ⟨World.grownBy.os h, World.grownBy.output h, World.grownBy.size h, fun i hi => World.grownBy.block h i hi (by simp)⟩
theorem Gx.ext {u u' : World} (h : Gx u u') : Ext none u (World.re u' u.tape u'.drawn) := ⟨h.os, rfl, h.out, h.size, fun i hi _ => h.block i hi⟩
theorem Gx.re {u u' : World} (h : Gx u u') (t : Nat → Question → Nat) (d : Nat) : Gx u (World.re u' t d) := ⟨h.os, h.out, h.size, h.block⟩

/-- The emptied world u of the true world w; X and u have grown from X0 and u0. -/
structure Wd (X0 : Nat → Prop) (u0 : World) (X : Nat → Prop) (u w : World) : Prop where
  pz : Pz X u w
  nx : ∀ b, X b → X0 b ∨ u0.heap.size ≤ b
  gx : Gx u0 u
theorem Wd.refl {X : Nat → Prop} {u w : World} (h : Pz X u w) : Wd X u X u w := ⟨h, fun _ h => .inl h, .refl u⟩
theorem Wd.at {X0 X : Nat → Prop} {u0 u w : World} (h : Wd X0 u0 X u w) (d : Nat) : Wd X0 u0 X u (w.at d) := ⟨h.pz.at d, h.nx, h.gx⟩
theorem Wd.trans {X0 X X' : Nat → Prop} {u0 u u' w w' : World} (h : Wd X0 u0 X u w) (k : Wd X u X' u' w') : Wd X0 u0 X' u' w' :=
  ⟨k.pz, fun b hb => (k.nx b hb).elim (h.nx b) fun hl => .inr (Nat.le_trans h.gx.size hl), h.gx.trans k.gx⟩
theorem Wd.step {X0 X : Nat → Prop} {u0 u u' w w' : World} (h : Wd X0 u0 X u w) (hp : Pz X u' w') (hg : Gx u u') : Wd X0 u0 X u' w' := ⟨hp, h.nx, h.gx.trans hg⟩

/-- From the emptied world u, whatever the true world. -/
def Gw (P : Program) (X0 : Nat → Prop) (u0 : World) (Q : (Nat → Prop) → Goroutine → World → Prop) (X : Nat → Prop) (u : World) (g : Goroutine) : Prop := ∀ w, Wd X0 u0 X u w → Gto P X g w Q
/-- The contract of a function that may start goroutines. -/
def GCalls (P : Program) (f : FuncId) (args : Array Value) (u : World) (Post : Value → World → Prop) : Prop :=
  ∀ (X : Nat → Prop) (w : World) (c : Frame) (cs : List Frame), Pz X u w →
    Gto P X (G (Frame.enter P f args .normal) (c :: cs)) w fun X' g' w' => ∃ v u', g' = G (c.finish v) cs ∧ Wd X u X' u' w' ∧ Post v u'
theorem GCalls.mono {P : Program} {f : FuncId} {args : Array Value} {u : World} {Post Post' : Value → World → Prop} (h : GCalls P f args u Post) (hk : ∀ v u', Post v u' → Post' v u') : GCalls P f args u Post' :=
  fun X w c cs hp => (h X w c cs hp).mono fun X' g' w' ⟨v, u', e, hw, hq⟩ => ⟨v, u', e, hw, hk v u' hq⟩

/-- What a stretch from v may end with. -/
def SegX (v : World) (N Rt : Act → World → Prop) : Exit → Act → World → Prop
  | .normal, a, w => N a w ∧ Ext none v w
  | .ret, a, w => Rt a w ∧ Ext none v w
  | _, _, _ => False

theorem call_run {P : Program} {a : Act} {w : World} {o : Oper} {g : FuncId} {args : Array Operand} {ats : Array TypeId} {fn : Func} {c : Code} (h : o.op = .call { callee := .value (.func g), args, argTypes := ats })
    (h1 : P.funcs[g]? = some fn) (h2 : (fn.name == "runtime.NumGoroutine") = false) (h3 : fn.body = some c) : (execOp a.eval o).run P w = .ok (.enter g (args.map a.eval)) w ∧ (execOp a.eval o).events P w #[] = #[] := by
  have h2' : ¬ fn.name = "runtime.NumGoroutine" := by simpa using h2
  constructor <;> unfold execOp <;> simp only [h, resolve] <;> simp [go_sem, Deferred.ofValue, Act.eval, invoke, callFunc, h1, h2', h3]

section
variable {P : Program} {T : Tame} {X0 X : Nat → Prop} {u0 u : World} {Q : (Nat → Prop) → Goroutine → World → Prop} {g g' : Goroutine}
theorem Gw.here (h : ∀ w, Wd X0 u0 X u w → Q X g w) : Gw P X0 u0 Q X u g := fun w hw => .here (h w hw)
theorem Gw.ctl (hs : g.status = .running) (h : ∀ w, stepG P true g w = .go g' w #[]) (k : Gw P X0 u0 Q X u g') : Gw P X0 u0 Q X u g := fun w hw =>
  Gto.of_alw (S := fun g1 w1 => g1 = g' ∧ Wd X0 u0 X u w1) (Alw.ctl hs h fun d => .stop fun d' => ⟨rfl, (hw.at d).at d'⟩) fun g1 w1 ⟨e, hw1⟩ => e ▸ k w1 hw1

variable {b : Frame} {a : Act} {k : List Item} {cs : List Frame} {ops : Array Oper} {i : Nat} {rest : List Nat} {oo : Oper}
theorem Gw.val {v : Value} (ho : ops[i]? = some oo) (hw : Region.wanted oo (yielded ops a.tmps) = true) (hk : b.kind ≠ .early) (h : ∀ w, (execOp a.eval oo).run P w = .ok (.value v) w ∧ (execOp a.eval oo).events P w #[] = #[])
    (hg : Gw P X0 u0 Q X u (G (b.at (a.put oo.dst v) (.inRegion ops rest :: k)) cs)) : Gw P X0 u0 Q X u (G (b.at a (.inRegion ops (i :: rest) :: k)) cs) := fun w hw' =>
  Gto.of_alw (S := fun g1 w1 => g1 = G (b.at (a.put oo.dst v) (.inRegion ops rest :: k)) cs ∧ Wd X0 u0 X u w1) (Alw.val ho hw hk h fun d => .stop fun d' => ⟨rfl, (hw'.at d).at d'⟩) fun g1 w1 ⟨e, hw1⟩ => e ▸ hg w1 hw1
theorem Gw.skip (ho : ops[i]? = some oo) (hw : Region.wanted oo (yielded ops a.tmps) = false) (hg : Gw P X0 u0 Q X u (G (b.at (a.put oo.dst undef) (.inRegion ops rest :: k)) cs)) : Gw P X0 u0 Q X u (G (b.at a (.inRegion ops (i :: rest) :: k)) cs) := fun w hw' =>
  Gto.of_alw (S := fun g1 w1 => g1 = G (b.at (a.put oo.dst undef) (.inRegion ops rest :: k)) cs ∧ Wd X0 u0 X u w1) (Alw.skip ho hw fun d => .stop fun d' => ⟨rfl, (hw'.at d).at d'⟩) fun g1 w1 ⟨e, hw1⟩ => e ▸ hg w1 hw1
theorem listed_none {o : Oper} {w : World} (h : (execOp a.eval o).events P w #[] = #[]) : listed P b.fn a o w = #[] := by
  have : (listed P b.fn a o w).toList = [] := List.eq_nil_iff_forall_not_mem.2 fun e he => by
    have := mem_listed (Array.mem_toList_iff.1 he)
    rw [h] at this
    simp at this
  exact Array.ext' this
/-- Into a function. -/
theorem Gw.enter {g : FuncId} {args : Array Operand} {ats : Array TypeId} {fn : Func} {c : Code} (ho : ops[i]? = some oo) (hw : Region.wanted oo (yielded ops a.tmps) = true) (hk : b.kind ≠ .early) (h : oo.op = .call { callee := .value (.func g), args, argTypes := ats })
    (h1 : P.funcs[g]? = some fn) (h2 : (fn.name == "runtime.NumGoroutine") = false) (h3 : fn.body = some c)
    (hg : Gw P X0 u0 Q X u (G (Frame.enter P g (args.map a.eval) .normal) (b.at a (.inRegion ops (i :: rest) :: k) :: cs))) : Gw P X0 u0 Q X u (G (b.at a (.inRegion ops (i :: rest) :: k)) cs) :=
  Gw.ctl rfl (fun w => by
    have r := call_run (P := P) (a := a) (w := w) (o := oo) h h1 h2 h3
    have := stepG_enter (P := P) (main := true) (b := b) (k := k) (cs := cs) (rest := rest) ho hw hk r.1
    rw [listed_none r.2] at this
    exact this) hg
/-- A call of a sequential function. -/
theorem Gw.scall (C : Closed P T) (R : ResOk P T) {g : FuncId} {args : Array Operand} {ats : Array TypeId} (ho : ops[i]? = some oo) (hw : Region.wanted oo (yielded ops a.tmps) = true) (hk : b.kind ≠ .early) (h : oo.op = .call { callee := .value (.func g), args, argTypes := ats })
    (hS : T.S g = true) {vals : Array Value} (hvals : args.map a.eval = vals) (hK : KnA T g vals) {Post : Value → World → Prop} (hPost : ∀ v u t d, Post v u → Post v (World.re u t d))
    (hc : ∀ t d, Calls P g vals (World.re u t d) fun e w' => ∃ v, e = .returned v ∧ Post v w' ∧ Ext none (World.re u t d) w')
    (hg : ∀ v u', Gx u u' → Post v u' → Gw P X0 u0 Q X u' (G (b.at (a.put oo.dst v) (.inRegion ops rest :: k)) cs)) : Gw P X0 u0 Q X u (G (b.at a (.inRegion ops (i :: rest) :: k)) cs) := by
  subst hvals
  obtain ⟨fn, c, h1, h2, h3, _⟩ := C.fn g hS
  refine Gw.enter ho hw hk h h1 h2 h3 fun w hwd => ?_
  have hfin : ∀ v, (b.at a (.inRegion ops (i :: rest) :: k)).finish v = b.at (a.put oo.dst v) (.inRegion ops rest :: k) := fun v => by rw [Frame.finish_at, ho]; rfl
  refine Gto.of_alw (S := fun g1 w1 => ∃ v u', g1 = G (b.at (a.put oo.dst v) (.inRegion ops rest :: k)) cs ∧ Wd X0 u0 X u' w1 ∧ Gx u u' ∧ Post v u')
    (Alw.call C R hS hK hwd.pz (Post := fun v u' => Post v u' ∧ Gx u u') (fun v u' t d x => ⟨hPost _ _ _ _ x.1, x.2.re t d⟩) (fun t d => (hc t d).mono fun e w' ⟨v, e1, e2, e3⟩ => by subst e1; exact ⟨e2, (Gx.refl u |>.re t d).trans (.of_ext e3)⟩)
      fun v u' w' hp' ⟨x, y⟩ => .stop fun d => ⟨v, u', by rw [hfin], (hwd.step hp' y).at d, y, x⟩) fun g1 w1 ⟨v, u', e, x1, x2, x3⟩ => e ▸ hg v u' x2 x3 w1 x1
/-- A call of a function that may start goroutines. -/
theorem Gw.gcall {g : FuncId} {args : Array Operand} {ats : Array TypeId} {fn : Func} {c : Code} (ho : ops[i]? = some oo) (hw : Region.wanted oo (yielded ops a.tmps) = true) (hk : b.kind ≠ .early) (h : oo.op = .call { callee := .value (.func g), args, argTypes := ats })
    (h1 : P.funcs[g]? = some fn) (h2 : (fn.name == "runtime.NumGoroutine") = false) (h3 : fn.body = some c) {vals : Array Value} (hvals : args.map a.eval = vals) {Post : Value → World → Prop} (hc : GCalls P g vals u Post)
    (hg : ∀ X' v u', Gx u u' → Post v u' → Gw P X0 u0 Q X' u' (G (b.at (a.put oo.dst v) (.inRegion ops rest :: k)) cs)) : Gw P X0 u0 Q X u (G (b.at a (.inRegion ops (i :: rest) :: k)) cs) := by
  subst hvals
  refine Gw.enter ho hw hk h h1 h2 h3 fun w hwd => ?_
  have hfin : ∀ v, (b.at a (.inRegion ops (i :: rest) :: k)).finish v = b.at (a.put oo.dst v) (.inRegion ops rest :: k) := fun v => by rw [Frame.finish_at, ho]; rfl
  refine (hc X w _ cs hwd.pz).bind fun X' g' w' ⟨v, u', e, hw', hq⟩ => ?_
  rw [hfin] at e
  subst e
  exact hg X' v u' hw'.gx hq w' (hwd.trans hw')

/-- A stretch of code. -/
theorem Gw.seg (C : Closed P T) (R : ResOk P T) {f : FuncId} {a : Act} {cd : Code} {K : List Item} (hf : T.M f = true) (hK : Kn T f a.tmps) (hd : a.defers = []) (hi : codeOk P T f cd = true)
    {N Rt : Act → World → Prop} (hN : ∀ a u t d, N a u → N a (World.re u t d)) (hRt : ∀ a u t d, Rt a u → Rt a (World.re u t d)) (h : ∀ t d, cd.wp P (SegX (World.re u t d) N Rt) a (World.re u t d))
    (hn : ∀ a' u', Gx u u' → N a' u' → Gw P X0 u0 Q X u' (G ((base f).at a' K) cs))
    (hr : ∀ a' u' todo, a'.defers = [] → Gx u u' → Rt a' u' → Gw P X0 u0 Q X u' (G { (base f).at a' todo with mode := .returning } cs)) : Gw P X0 u0 Q X u (G ((base f).at a (.code cd :: K)) cs) := fun w hwd =>
  Gto.of_alw (S := fun g1 w1 => ∃ u', Gx u u' ∧ Wd X0 u0 X u' w1 ∧ ((∃ a', g1 = G ((base f).at a' K) cs ∧ N a' u') ∨ ∃ a' todo, g1 = G { (base f).at a' todo with mode := .returning } cs ∧ a'.defers = [] ∧ Rt a' u'))
    (Alw.seg C R hf hK hd hi hwd.pz (N := fun a' u' => N a' u' ∧ Gx u u') (Rt := fun a' u' => Rt a' u' ∧ Gx u u') (fun a' u' t d x => ⟨hN _ _ _ _ x.1, x.2.re t d⟩) (fun a' u' t d x => ⟨hRt _ _ _ _ x.1, x.2.re t d⟩)
      (fun t d => wp_mono (h t d) fun e a' w' hq => by
        cases e with
        | normal => exact ⟨hq.1, (Gx.refl u |>.re t d).trans (.of_ext hq.2)⟩
        | ret => exact ⟨hq.1, (Gx.refl u |>.re t d).trans (.of_ext hq.2)⟩
        | _ => exact hq.elim)
      (fun a' u' w' hp' ⟨x, y⟩ => .stop fun d => ⟨u', y, (hwd.step hp' y).at d, .inl ⟨a', rfl, x⟩⟩)
      fun a' u' w' todo hd' hp' ⟨x, y⟩ => .stop fun d => ⟨u', y, (hwd.step hp' y).at d, .inr ⟨a', todo, rfl, hd', x⟩⟩)
    fun g1 w1 ⟨u', y, hw1, hc⟩ => by
      rcases hc with ⟨a', rfl, x⟩ | ⟨a', todo, rfl, hd', x⟩
      · exact hn a' u' y x w1 hw1
      · exact hr a' u' todo hd' y x w1 hw1
/-- The rest of a region. -/
theorem Gw.oprest (C : Closed P T) (R : ResOk P T) {f : FuncId} {a : Act} {l : List Nat} {K : List Item} (hf : T.M f = true) (hK : Kn T f a.tmps) (hd : a.defers = []) (hi : l.all (opAt P T f ops) = true)
    {N : Act → World → Prop} (hN : ∀ a u t d, N a u → N a (World.re u t d)) (h : ∀ t d, wpOps P ops (SegX (World.re u t d) N fun _ _ => False) l a (World.re u t d))
    (hn : ∀ a' u', Gx u u' → N a' u' → Gw P X0 u0 Q X u' (G ((base f).at a' K) cs)) : Gw P X0 u0 Q X u (G ((base f).at a (.inRegion ops l :: K)) cs) := fun w hwd =>
  Gto.of_alw (S := fun g1 w1 => ∃ u', Gx u u' ∧ Wd X0 u0 X u' w1 ∧ ∃ a', g1 = G ((base f).at a' K) cs ∧ N a' u')
    (Alw.stretch (items := [.inRegion ops l]) C R hf hK hd (fun it hm => by rw [List.mem_singleton] at hm; subst hm; exact hi) hwd.pz (N := fun a' u' => N a' u' ∧ Gx u u') (Rt := fun _ _ => False) (fun a' u' t d x => ⟨hN _ _ _ _ x.1, x.2.re t d⟩) (fun _ _ _ _ x => x)
      (fun t d => by
        obtain ⟨e, a', w', hq, har⟩ := wp_ops l a _ (h t d) (base f) trapK [trap]
        refine ⟨e, a', w', ?_, har⟩
        cases e with
        | normal => exact ⟨hq.1, (Gx.refl u |>.re t d).trans (.of_ext hq.2)⟩
        | ret => exact hq.1.elim
        | _ => exact hq.elim)
      (fun a' u' w' hp' ⟨x, y⟩ => .stop fun d => ⟨u', y, (hwd.step hp' y).at d, a', rfl, x⟩) fun _ _ _ _ _ _ h => h.elim)
    fun g1 w1 ⟨u', y, hw1, a', e, x⟩ => e ▸ hn a' u' y x w1 hw1
/-- Out of a function. -/
theorem Gw.leave {f : FuncId} {fn : Func} {a : Act} {todo : List Item} {c : Frame} {v : Value} (h1 : P.funcs[f]? = some fn) (hd : a.defers = []) (hv : results fn a.tmps = pure v) (hk : Gw P X0 u0 Q X u (G (c.finish v) cs)) :
    Gw P X0 u0 Q X u (G { (base f).at a todo with mode := .returning } (c :: cs)) :=
  Gw.ctl rfl (fun w => stepG_leave (b := base f) (a := a) (todo := todo) (c := c) (cs := cs) (fn := fn) (v := v) rfl hd h1 (by rw [hv]; rfl) (by rw [hv]; rfl)) hk
/-- Out of a function, the results read where they lie. -/
theorem Gw.leaveS {f : FuncId} {fn : Func} {a : Act} {todo : List Item} {c : Frame} {v : Value} (h1 : P.funcs[f]? = some fn) (hd : a.defers = []) (hv : (results fn a.tmps).run P u = .ok v u) (hk : Gw P X0 u0 Q X u (G (c.finish v) cs)) :
    Gw P X0 u0 Q X u (G { (base f).at a todo with mode := .returning } (c :: cs)) := fun w hw =>
  Gto.of_alw (S := fun g1 w1 => g1 = G (c.finish v) cs ∧ Wd X0 u0 X u w1) (Alw.leaveS hw.pz h1 hd hv fun w' hp' => .stop fun d => ⟨rfl, (hw.step hp' (.refl u)).at d⟩) fun g1 w1 ⟨e, h⟩ => e ▸ hk w1 h
/-- A contract is walked. -/
theorem GCalls.of {f : FuncId} {args : Array Value} {fn : Func} {cd : Code} {Post : Value → World → Prop} (h1 : P.funcs[f]? = some fn) (h3 : fn.body = some cd)
    (h : ∀ X c cs, (∀ b, X b → b < u.heap.size) → Gw P X u (fun X' g' w' => ∃ v u', g' = G (c.finish v) cs ∧ Wd X u X' u' w' ∧ Post v u') X u (G ((base f).at ⟨args ++ Array.replicate (fn.ntmps - args.size) undef, []⟩ [.code cd]) (c :: cs))) : GCalls P f args u Post := by
  intro X w c cs hp
  rw [enter_at args h1 h3]
  exact h X c cs (fun b hb => by
    obtain ⟨_, _, _, h2⟩ := hp.bad b hb
    exact (Array.getElem?_eq_some_iff.1 h2).1) w (.refl hp)
theorem Gw.done {c : Frame} {cs : List Frame} {v : Value} {Post : Value → World → Prop} (h : Post v u) : Gw P X0 u0 (fun X' g' w' => ∃ v u', g' = G (c.finish v) cs ∧ Wd X0 u0 X' u' w' ∧ Post v u') X u (G (c.finish v) cs) :=
  .here fun w hw => ⟨v, u, rfl, hw, h⟩
end
end

section
open Go.Conc

def seqB (P : Program) (T : Tame) (g : Nat) : Bool :=
  match P.funcs[g]? with
  | some fn => (fn.name == "runtime.NumGoroutine") == false && match fn.body with
    | some c => codeOk P T g c
    | none => false
  | none => false
def midB (P : Program) (g : Nat) : Bool := (P.funcs[g]?).isSome
def idleB (f : Func) : Bool := match f.body with | some c => (readies c).isEmpty | none => true
theorem closed_of {P : Program} {T : Tame} {l m : List Nat} (hS : ∀ g, T.S g = l.contains g) (hM : ∀ g, T.M g = m.contains g) (h1 : l.all (seqB P T) = true) (h2 : m.all (midB P) = true) (h3 : l.all (fun g => m.contains g) = true)
    (h4 : P.follows .staticDataAhead = true) (h5 : P.funcs.all idleB = true) : Closed P T ∧ ResOk P T := by
  refine ⟨⟨fun g hg => ?_, fun g hg => ?_, fun g hg => ?_, h4, fun g => ?_⟩, trivial⟩
  · rw [hS] at hg
    have h := List.all_eq_true.1 h1 g (List.contains_iff_mem.1 hg)
    unfold seqB at h
    cases hf : P.funcs[g]? with
    | none => rw [hf] at h; cases h
    | some fn =>
      rw [hf] at h
      cases hb : fn.body with
      | none => simp [hb] at h
      | some c => simp only [hb, Bool.and_eq_true, beq_iff_eq] at h; exact ⟨fn, c, rfl, h.1, hb, h.2⟩
  · rw [hS] at hg
    rw [hM]
    exact List.all_eq_true.1 h3 g (List.contains_iff_mem.1 hg)
  · rw [hM] at hg
    have h := List.all_eq_true.1 h2 g (List.contains_iff_mem.1 hg)
    unfold midB at h
    cases hf : P.funcs[g]? with
    | none => rw [hf] at h; cases h
    | some fn => exact ⟨fn, rfl⟩
  · unfold Program.stepOf
    rw [Array.findIdx?_eq_none_iff]
    intro f hf
    have := Array.all_eq_true_iff_forall_mem.1 h5 f hf
    unfold idleB at this
    cases hb : f.body with
    | none => simp
    | some c =>
      rw [hb] at this
      have e : readies c = [] := by simpa using this
      simp [e]

def seqs : List Nat := [8, 9, 11, 12, 13, 15, 17, 18, 19, 20, 21, 22, 23, 24, 25, 26, 27, 28, 29, 30, 31, 33, 34, 35, 36, 37, 38, 39, 40, 41, 42, 43, 44, 45, 46, 47, 48, 49, 50, 55, 56, 57, 58, 59, 60, 61, 62, 63, 64, 65, 66, 67, 86, 87, 88, 89, 90, 91, 92, 93, 94, 95, 101, 102, 103, 104]
def mids : List Nat := [3, 4, 5, 6, 7, 8, 9, 10, 11, 12, 13, 14, 15, 16, 17, 18, 19, 20, 21, 22, 23, 24, 25, 26, 27, 28, 29, 30, 31, 32, 33, 34, 35, 36, 37, 38, 39, 40, 41, 42, 43, 44, 45, 46, 47, 48, 49, 50, 55, 56, 57, 58, 59, 60, 61, 62, 63, 64, 65, 66, 67, 86, 87, 88, 89, 90, 91, 92, 93, 94, 95, 101, 102, 103, 104]
def TT : Tame := { S := fun g => seqs.contains g, M := fun g => mids.contains g, K := fun g => if g = 38 then [(2, 39), (27, 39)] else [] }
theorem seqs_ok : seqs.all (seqB Try.prog TT) = true := by kernel_rfl
theorem mids_ok : mids.all (midB Try.prog) = true := by kernel_rfl
theorem seqs_mids : seqs.all (fun g => mids.contains g) = true := by kernel_rfl
theorem idle_ok : Try.prog.funcs.all idleB = true := by kernel_rfl
theorem early_ok : Try.prog.follows .staticDataAhead = true := by kernel_rfl
theorem CC : Closed Try.prog TT := (closed_of (fun _ => rfl) (fun _ => rfl) seqs_ok mids_ok seqs_mids early_ok idle_ok).1
theorem RR : ResOk Try.prog TT := (closed_of (fun _ => rfl) (fun _ => rfl) seqs_ok mids_ok seqs_mids early_ok idle_ok).2
end

section
open Go.Conc Go.RowKit
open Go.ConcR (WgAt wgBlock)

/-- a slice of slices of crews -/
def Mat (w : World) (a : Option Addr) (n : Nat) (rs : List (List Nat)) : Prop :=
  ∃ vs, At w a n vs ∧ vs.length = rs.length ∧ ∀ (k : Nat) v r, vs[k]? = some v → rs[k]? = some r → ∃ a m c, v = .slice a m c ∧ OwnC w 0 a m c r
theorem Mat.ext {w w' : World} {a : Option Addr} {n : Nat} {rs : List (List Nat)} (h : Mat w a n rs) (hx : Ext none w w') : Mat w' a n rs := by
  obtain ⟨vs, h1, h2, h3⟩ := h
  exact ⟨vs, h1.ext hx, h2, fun k v r hv hr => let ⟨a, m, c, e, h4⟩ := h3 k v r hv hr; ⟨a, m, c, e, h4.ext0 hx⟩⟩
theorem Mat.len {w : World} {a : Option Addr} {n : Nat} {rs : List (List Nat)} (h : Mat w a n rs) : rs.length = n := by
  obtain ⟨vs, h1, h2, h3⟩ := h
  rw [← h2, h1.len]
theorem Mat.cell {w : World} {a : Option Addr} {n : Nat} {rs : List (List Nat)} (h : Mat w a n rs) {k : Nat} (hk : k < n) :
    ∃ b off a2 n2 c2, a = some ⟨b, off, none⟩ ∧ w.cell? ⟨b, off + k, none⟩ = some (.slice a2 n2 c2) ∧ OwnC w 0 a2 n2 c2 (rs.getD k []) := by
  have hl := h.len
  obtain ⟨vs, h1, h2, h3⟩ := h
  obtain ⟨b, off, ha, hc⟩ := h1.2.2 k hk
  have hv : k < vs.length := by omega
  have hr : k < rs.length := by omega
  obtain ⟨a2, n2, c2, e, h4⟩ := h3 k vs[k] rs[k] (by simp [hv]) (by simp [hr])
  exact ⟨b, off, a2, n2, c2, ha, by rw [hc]; simp [hv, e], by simpa [List.getD, hr] using h4⟩
theorem Gx.at_ {u u' : World} {a : Option Addr} {n : Nat} {vs : List Value} (g : Gx u u') (h : At u a n vs) : At u' a n vs := by have := h.ext g.ext; exact this
theorem Gx.crs {u u' : World} {a : Option Addr} {n : Nat} {q : List Nat} (g : Gx u u') (h : Crs u a n q) : Crs u' a n q := by have := h.ext g.ext; exact this
theorem Gx.ints {u u' : World} {a : Option Addr} {n : Nat} {q : List Int} (g : Gx u u') (h : Ints u a n q) : Ints u' a n q := by have := h.ext g.ext; exact this
theorem Gx.fam {u u' : World} {a : Option Addr} {n : Nat} {f : List (List Int)} (g : Gx u u') (h : Fam u a n f) : Fam u' a n f := by have := h.ext g.ext; exact this
theorem Gx.mat {u u' : World} {a : Option Addr} {n : Nat} {rs : List (List Nat)} (g : Gx u u') (h : Mat u a n rs) : Mat u' a n rs := by have := h.ext g.ext; exact this
theorem Gx.cell {u u' : World} {p : Addr} {v : Value} (g : Gx u u') (h : u.cell? p = some v) : u'.cell? p = some v := by have := g.ext.cell h; exact this
/-- What common returns. -/
def rowsL (x y : List Nat) : List (List Nat) := x.map fun a => y.map fun b => a &&& b

theorem wpl_make48 (w : World) {ops : Array Oper} {rest : List Oper} {o : Oper} {a : Act} {Q : Exit → Act → World → Prop}
    (hg : o.guard = none) (l c : Operand) (hop : o.op = Op.makeSlice 48 l c) (n : Nat) (hl : a.eval l = .int .i64 (n : Int)) (hc : a.eval c = .int .i64 (n : Int)) (hn : n ≤ 10000000)
    (hK : ∀ arr : Array Value, arr.toList = List.replicate n (.slice none 0 0) → wpList Try.prog ops Q rest (a.put o.dst (.slice (some ⟨w.heap.size, 0, none⟩) n n)) (w.alloc (.cells arr 44))) :
    wpList Try.prog ops Q (o :: rest) a w := by
  refine wpList_plain hg fun K hK' => ?_
  obtain ⟨i0, hi, hz0, hz1, hz2⟩ : ∃ i, Try.prog.info? 44 = some i ∧ i.zero = some (.slice none 0 0) ∧ i.size = 1 ∧ i.bytes = 24 := by
    have : (Try.prog.info? 44).map (fun i => (i.zero, i.size, i.bytes)) = some (some (.slice none 0 0), 1, 24) := by kernel_rfl
    exact info_parts this
  have hrun := run_make (P := Try.prog) w 48 44 i0 (.slice none 0 0) Try.underlying48 hi hz0 .i64 .i64 n n (by omega) (by omega) (by rw [hz2]; omega) (by omega)
  simp only [Int.toNat_natCast, hz1, Nat.mul_one] at hrun
  unfold Oper.wp
  simp [execOp, hop, hl, hc, hrun, Result.andThen]
  exact hK' _ _ (hK _ (toList_madeCells_one _ _))

theorem kn_nil {T : Tame} {f : FuncId} {t : Array Value} (h : T.K f = []) : Kn T f t := by unfold Kn; rw [h]; intro x hx; cases hx
theorem arr24 (T : Array Value) (h : T.size = 24) : ∃ e0 e1 e2 e3 e4 e5 e6 e7 e8 e9 e10 e11 e12 e13 e14 e15 e16 e17 e18 e19 e20 e21 e22 e23 : Value, T = #[e0, e1, e2, e3, e4, e5, e6, e7, e8, e9, e10, e11, e12, e13, e14, e15, e16, e17, e18, e19, e20, e21, e22, e23] := by
  obtain ⟨l⟩ := T
  match l, h with
  | [e0, e1, e2, e3, e4, e5, e6, e7, e8, e9, e10, e11, e12, e13, e14, e15, e16, e17, e18, e19, e20, e21, e22, e23], _ => exact ⟨e0, e1, e2, e3, e4, e5, e6, e7, e8, e9, e10, e11, e12, e13, e14, e15, e16, e17, e18, e19, e20, e21, e22, e23, rfl⟩
theorem al81 {a : Act} {w : World} {o : Oper} (h : o.op = .alloc 81) : (execOp a.eval o).run Try.prog w = .ok (.value (.pointer (some ⟨w.heap.size, 0, none⟩))) (w.alloc (wgBlock 81 0 0)) ∧ (execOp a.eval o).events Try.prog w #[] = #[] := by
  constructor <;> unfold execOp <;> simp only [h] <;> simp [go_sem, wgBlock]

noncomputable def q2 : Array Oper := co (cl (cr (cr body32)))
theorem body_eq32 : body32 = .seq (cl body32) (.seq (cl (cr body32)) (.seq (.region 2 q2 false) tail32)) := rfl

section
variable {xa ya : Option Addr} {n cx m cy : Nat} {x y : List Nat} {u : World}
set_option maxRecDepth 10000 in
/-- From the making of the group to the return. -/
theorem common_mid {u0 : World} (hx : Crs u xa n x) (hy : Crs u ya m y) (hn : n ≤ 20) (hm : m ≤ 20) (hx64 : ∀ c ∈ x, c < 64) (hy64 : ∀ c ∈ y, c < 64) {X0 X : Nat → Prop} {c : Frame} {cs : List Frame} {Yb Rb C : Nat} {v9 v10 v11 : Value} {arr : Array Value}
    (hYb : u.cell? ⟨Yb, 0, none⟩ = some (.slice ya m cy)) (hRb : u.cell? ⟨Rb, 0, none⟩ = some (.slice (some ⟨C, 0, none⟩) n n)) (hC : u.heap[C]? = some (.cells arr 44)) (harr : arr.toList = List.replicate n (.slice none 0 0)) (hC0 : u0.heap.size ≤ C) (hYC : Yb ≠ C) (hRC : Rb ≠ C) (hCx : ¬ X C)
    (hxC : ∀ ad, xa = some ad → 0 < n → ad.block ≠ C) (hyC : ∀ ad, ya = some ad → 0 < m → ad.block ≠ C) :
    Gw Try.prog X0 u0 (fun X' g' w' => ∃ v u', g' = G (c.finish v) cs ∧ Wd X0 u0 X' u' w' ∧ (∃ C, v = .slice (some ⟨C, 0, none⟩) n n ∧ Mat u' (some ⟨C, 0, none⟩) n (rowsL x y))) X u
      (G (b32.at ⟨#[.slice xa n cx, .slice ya m cy, undef, .pointer (some ⟨Yb, 0, none⟩), .slice none 0 0, .pointer (some ⟨Rb, 0, none⟩), undef, undef, undef, v9, v10, v11, undef, undef, undef, undef, undef, undef, undef, undef, undef, undef, undef, undef], []⟩ [.code (.seq (.region 2 q2 false) tail32)]) (c :: cs)) := by
  refine Gw.ctl rfl (fun w => stepG_seq) ?_
  refine Gw.ctl rfl (fun w => stepG_region) ?_
  rw [show List.range q2.size = [0] from rfl]
  intro w hwd
  have hsz : w.heap.size = u.heap.size := hwd.pz.size
  have lt : ∀ b, X b → b < w.heap.size := fun b hb => by
    obtain ⟨c, t, h1, _⟩ := hwd.pz.bad b hb
    exact (Array.getElem?_eq_some_iff.1 h1).1
  have inu : ∀ {a : Addr} {v : Value}, u.cell? a = some v → w.cell? a = some v ∧ ¬ X a.block ∧ a.block < w.heap.size := fun h => hwd.pz.cell h
  obtain ⟨X', hX'⟩ : ∃ X' : Nat → Prop, X' = fun b => X b ∨ b = w.heap.size := ⟨_, rfl⟩
  have k1 : ∀ b, X b → X' b := fun b hb => by rw [hX']; exact .inl hb
  have k2 : ∀ b, X' b → X b ∨ w.heap.size ≤ b := fun b hb => by rw [hX'] at hb; exact hb.imp id fun e => Nat.le_of_eq e.symm
  have k3 : ∀ b, X' b → X b ∨ b = w.heap.size := fun b hb => by rw [hX'] at hb; exact hb
  refine Gto.wide k1 k2 ?_
  let K : CS := { L := ⟨w.heap.size, C, n, w.heap.size + 1⟩, X := X', Yb := Yb, Rb := Rb, ny := m, cy := cy, ya := ya, y := fun k => ((y.getD k 0 : Nat) : Int), cx := cx, xa := xa, x := fun k => ((x.getD k 0 : Nat) : Int), W0 := w.alloc (wgBlock 81 0 0) }
  obtain ⟨y1, y2, y3⟩ := inu hYb
  obtain ⟨r1, r2, r3⟩ := inu hRb
  have hCw : w.heap[C]? = some (.cells arr 44) := (hwd.pz.same C hCx).trans hC
  have hClt : C < w.heap.size := (Array.getElem?_eq_some_iff.1 hCw).1
  have hars : arr.size = n := by rw [← Array.length_toList, harr, List.length_replicate]
  have lowOf : ∀ b, b < w.heap.size → ¬ X b → b ≠ C → K.lowR b := fun b h1 h2 h3 => ⟨Nat.lt_succ_of_lt h1, Nat.ne_of_lt h1, h3, fun h => (k3 b h).elim h2 fun e => by omega⟩
  have rowAt : ∀ {a : Option Addr} {k : Nat} {q : List Nat}, Crs u a k q → ∀ i ad, i < k → a = some ad → w.cell? (ad.add i) = some (.int .u64 ((q.getD i 0 : Nat) : Int)) ∧ ¬ X ad.block ∧ ad.block < w.heap.size := by
    intro a k q h i ad hi e
    obtain ⟨b, off, e', hc⟩ := h.cell hi
    rw [e] at e'
    obtain rfl := Option.some.inj e'
    have := inu hc
    have ha : (⟨b, off, none⟩ : Addr).add i = ⟨b, off + i, none⟩ := by unfold Addr.add; split <;> simp_all
    rw [ha]
    exact ⟨this.1, this.2.1, this.2.2⟩
  have nzOf : ∀ {a : Option Addr} {k : Nat} {q : List Nat}, Crs u a k q → 0 < k → ∃ ad, a = some ad := fun h hk => let ⟨b, off, e, _⟩ := h.cell hk; ⟨_, e⟩
  have KK' : CSOk K := by
    refine ⟨⟨Nat.lt_succ_self _, Nat.lt_succ_of_lt hClt, Nat.ne_of_lt hClt⟩, lowOf Yb y3 y2 hYC, lowOf Rb r3 r2 hRC, fun ad h0 e => ?_, fun ad h0 e => ?_, nzOf hy, nzOf hx, by show m < _; omega, by show n < _; omega⟩
    · have := rowAt hy 0 ad h0 e
      exact lowOf _ this.2.2 this.2.1 (hyC ad e h0)
    · have := rowAt hx 0 ad h0 e
      exact lowOf _ this.2.2 this.2.1 (hxC ad e h0)
  have al : ∀ {a : Addr} {v : Value}, w.cell? a = some v → a.block < w.heap.size → (w.alloc (wgBlock 81 0 0)).cell? a = some v := fun h hl => (World.cell?_of_block (heap_alloc_old _ _ hl)).trans h
  have SF0 : SF K (w.alloc (wgBlock 81 0 0)) :=
    ⟨al y1 y3, al r1 r3, fun k ad hk e => (by
      have := rowAt hy k ad hk e
      exact al this.1 (by rw [addBlock]; exact this.2.2)), fun k ad hk e => (by
      have := rowAt hx k ad hk e
      exact al this.1 (by rw [addBlock]; exact this.2.2)), by show w.heap.size + 1 ≤ _; simp, ⟨arr, (heap_alloc_old _ _ hClt).trans hCw, hars⟩, fun _ _ _ _ => rfl, rfl, rfl⟩
  have hz0 : ∀ i, i < n → (w.alloc (wgBlock 81 0 0)).cell? ⟨C, i, none⟩ = some (.slice none 0 0) := fun i hi => by
    have hb : (w.alloc (wgBlock 81 0 0)).heap[C]? = some (.cells arr 44) := (heap_alloc_old _ _ hClt).trans hCw
    have : arr[i]? = some (.slice none 0 0) := by rw [← Array.getElem?_toList, harr, List.getElem?_replicate, if_pos hi]
    simp [World.cell?, hb, this]
  refine Gto.of_alw (S := fun g1 w1 => g1 = G (b32.at ⟨#[.slice xa n cx, .slice ya m cy, undef, .pointer (some ⟨Yb, 0, none⟩), .slice none 0 0, .pointer (some ⟨Rb, 0, none⟩), .pointer (some ⟨w.heap.size, 0, none⟩), undef, undef, v9, v10, v11, undef, undef, undef, undef, undef, undef, undef, undef, undef, undef, undef, undef], []⟩ [.code tail32]) (c :: cs) ∧ SF K w1 ∧ WgAt 81 w.heap.size w1 0 0 ∧ ∀ i, i < n → w1.cell? ⟨C, i, none⟩ = some (.slice none 0 0))
    (Alw.op (oo := q2.getD 0 default) rfl rfl bk32 fun d => ?_) fun g1 w1 ⟨e, h1, h2, h3⟩ => ?_
  · obtain ⟨a1, a2⟩ := al81 (w := w.at d) (a := ⟨#[.slice xa n cx, .slice ya m cy, undef, .pointer (some ⟨Yb, 0, none⟩), .slice none 0 0, .pointer (some ⟨Rb, 0, none⟩), undef, undef, undef, v9, v10, v11, undef, undef, undef, undef, undef, undef, undef, undef, undef, undef, undef, undef], []⟩) (o := q2.getD 0 default) rfl
    refine ⟨_, _, .inl a1, fun e he => by rw [a2] at he; simp at he, by rw [World.size_alloc]; exact Nat.le_succ _, Alw.ctl rfl (fun w => stepG_region_end) fun d1 => .stop fun d2 => ⟨rfl, ?_, heap_alloc_new _ _, hz0⟩⟩
    exact ⟨SF0.yb, SF0.rb, SF0.ys, SF0.xs, SF0.sz, SF0.pay, SF0.low, SF0.io⟩
  subst e
  refine (Gto.phase (c := K) (cs := c :: cs) KK' (fun b hb => ?_) (show X' w.heap.size by rw [hX']; exact .inr rfl) rfl rfl rfl rfl rfl h1 h2 h3).bind fun X2 g2 w2 ⟨eX, A, O, o0, eg, hA, hS, hF, hwg, hls, hfin⟩ => ?_
  · rcases k3 b hb with hb | rfl
    · exact ⟨Nat.lt_succ_of_lt (lt b hb), fun e => hCx (by have e' : b = C := e; exact e' ▸ hb)⟩
    · exact ⟨Nat.lt_succ_self _, Ne.symm (Nat.ne_of_lt hClt)⟩
  obtain rfl : X' = X2 := Eq.symm eX
  subst eg
  obtain ⟨T, ds⟩ := A
  cases hA
  have hS5 := hS.t5
  obtain ⟨p0, p1, p2, p3, p4, p5, p6, p7, p8, p9, p10, p11, p12, p13, p14, p15, p16, p17, p18, p19, p20, p21, p22, p23, rfl⟩ := arr24 T hS.sz
  have hS5 : p5 = .pointer (some ⟨Rb, 0, none⟩) := hS5
  subst hS5
  have lowW : ∀ b, b < w.heap.size → b ≠ C → w2.heap[b]? = w.heap[b]? := fun b hb hc => (hF.low b (Nat.lt_succ_of_lt hb) (Nat.ne_of_lt hb) hc).trans (heap_alloc_old _ _ hb)
  have hcells : CellsX X' w2 := fun b hb => by
    rcases k3 b hb with hb | rfl
    · obtain ⟨cc, t, h4, _⟩ := hwd.pz.bad b hb
      exact ⟨cc, t, (lowW b (lt b hb) fun e => hCx (e ▸ hb)).trans h4⟩
    · exact ⟨_, _, hwg⟩
  have hpz := pz_of hcells
  have hsz2 : w.heap.size + 1 ≤ w2.heap.size := hF.sz
  have nX : ∀ b, ¬ X b → b ≠ w.heap.size → ¬ X' b := fun b h1 h2 h3 => (k3 b h3).elim h1 h2
  have hgx : Gx u0 (World.pz X' w2) := by
    refine ⟨((hpz.os.symm.trans hF.io.1).trans hwd.pz.os).trans hwd.gx.os, ((hpz.out.symm.trans hF.io.2).trans hwd.pz.out).trans hwd.gx.out, ?_, fun b hb => ?_⟩
    · have := hwd.gx.size
      rw [← hpz.size]; omega
    · have hbu : b < u.heap.size := Nat.lt_of_lt_of_le hb hwd.gx.size
      have hbw : b < w.heap.size := by omega
      have hbC : b ≠ C := by omega
      rw [← hwd.gx.block b hb]
      by_cases hxb : X b
      · obtain ⟨cc, t, h4, h5⟩ := hwd.pz.bad b hxb
        obtain ⟨cc', t', h6, h7⟩ := hpz.bad b (k1 b hxb)
        rw [lowW b hbw hbC, h4] at h6
        cases h6
        rw [h7, h5]
      · rw [← hpz.same b (nX b hxb (by omega)), lowW b hbw hbC, hwd.pz.same b hxb]
  have hwd2 : Wd X0 u0 X' (World.pz X' w2) w2 := by
    refine ⟨hpz, fun b hb => ?_, hgx⟩
    rcases k3 b hb with hb | rfl
    · exact hwd.nx b hb
    · exact .inr (by have := hwd.gx.size; omega)
  have hNC : ¬ X' C := nX C hCx (Nat.ne_of_lt hClt)
  have hRu : (World.pz X' w2).cell? ⟨Rb, 0, none⟩ = some (.slice (some ⟨C, 0, none⟩) n n) := by
    rw [pz_cell hpz (nX Rb r2 (Nat.ne_of_lt r3))]
    exact hF.rb
  -- the rows
  have hMat : Mat (World.pz X' w2) (some ⟨C, 0, none⟩) n (rowsL x y) := by
    have key : ∀ i, i < n → ∃ a m' c, w2.cell? ⟨C, i, none⟩ = some (.slice a m' c) ∧ OwnC (World.pz X' w2) 0 a m' c (y.map fun b => x.getD i 0 &&& b) := by
      intro i hi
      obtain ⟨s, f1, f2, f3⟩ := hfin i hi
      have hvals : (K.wc i 0 0).vals m = (y.map fun b => x.getD i 0 &&& b).map (fun c => Value.int .u64 (c : Nat)) := by
        have hyl := hy.len
        apply List.ext_getElem?
        intro k
        unfold WC.vals WC.v
        rw [List.getElem?_map, List.getElem?_map, List.getElem?_map]
        by_cases hk : k < m
        · rw [List.getElem?_range hk, List.getElem?_eq_getElem (by omega : k < y.length)]
          have hxi : x.getD i 0 < 64 := getD_lt hx64 (by rw [hx.len]; exact hi)
          have hyk : y.getD k 0 < 64 := getD_lt hy64 (by omega)
          have e : y[k] = y.getD k 0 := by simp [List.getD, hyl, hk]
          simp only [Option.map_some]
          rw [e]
          show some (Value.int .u64 (bits .and .u64 ((x.getD i 0 : Nat) : Int) ((y.getD k 0 : Nat) : Int))) = _
          rw [bits_and _ _ hxi hyk]
        · rw [List.getElem?_eq_none (by simpa using hk), List.getElem?_eq_none (by omega : y.length ≤ k)]; rfl
      have f2' : w2.ownsRow 0 52 1 s m ((y.map fun b => x.getD i 0 &&& b).map (fun c => Value.int .u64 (c : Nat))) := by rw [← hvals]; exact f2
      have hsl : ∃ a c, s = .slice a m c := by
        rcases f2'.2 with ⟨e, e0⟩ | ⟨g, cap, cur, e, _⟩
        · exact ⟨none, 0, by rw [e, e0]⟩
        · exact ⟨_, _, e⟩
      obtain ⟨a, c', rfl⟩ := hsl
      refine ⟨a, m, c', f1, ?_⟩
      have hown : Own w2 0 52 a m c' ((y.map fun b => x.getD i 0 &&& b).map (fun c => Value.int .u64 (c : Nat))) := f2'
      have hown' : Own (World.pz X' w2) 0 52 a m c' ((y.map fun b => x.getD i 0 &&& b).map (fun c => Value.int .u64 (c : Nat))) := Own.same hown fun g hg => by
        have := (hls.lo i hi g (f3 g hg)).1
        have hge : w.heap.size + 1 ≤ g := this
        refine (hpz.same g fun h => ?_).symm
        rcases k3 g h with h | h
        · have := lt g h; omega
        · omega
      exact hown'
    obtain ⟨arr2, p1, p2⟩ := hF.pay
    have p1 : w2.heap[C]? = some (.cells arr2 44) := p1
    refine ⟨arr2.toList, ⟨by simpa using p2, by simp only [maxLen]; omega, fun k hk => ⟨C, 0, rfl, ?_⟩⟩, by simp [rowsL, hx.len]; exact p2, fun k v r hv hr => ?_⟩
    · rw [pz_cell hpz hNC, Nat.zero_add, Array.getElem?_toList]
      simp [World.cell?, p1]
    · have hk : k < n := by
        have h7 := (List.getElem?_eq_some_iff.1 hv).1
        have p2' : arr2.size = n := p2
        rw [Array.length_toList, p2'] at h7
        exact h7
      obtain ⟨a, m', c', f1, f2⟩ := key k hk
      have ev : some v = some (.slice a m' c') := by
        rw [← hv, ← f1, Array.getElem?_toList]
        simp [World.cell?, p1]
      have er : r = y.map fun b => x.getD k 0 &&& b := by
        unfold rowsL at hr
        rw [List.getElem?_map, List.getElem?_eq_getElem (by rw [hx.len]; exact hk : k < x.length)] at hr
        have e : x[k]'(by rw [hx.len]; exact hk) = x.getD k 0 := by simp [List.getD, hx.len, hk]
        simp only [Option.map_some, Option.some.injEq, e] at hr
        exact hr.symm
      exact ⟨a, m', c', Option.some.inj ev, er ▸ f2⟩
  -- to the return
  refine Gw.ctl rfl (fun w => stepG_region_end) ?_ w2 hwd2
  generalize World.pz X' w2 = u2 at hMat hRu
  refine Gw.seg CC RR (f := 32) (N := fun _ _ => False) (Rt := fun a' u' => a'.tmps.getD 4 undef = .slice (some ⟨C, 0, none⟩) n n ∧ Mat u' (some ⟨C, 0, none⟩) n (rowsL x y)) rfl (kn_nil rfl) rfl (by kernel_rfl) (fun _ _ _ _ h => h) (fun _ _ _ _ h => h) (fun t d => ?_) (fun _ _ _ h => h.elim) fun a' u' todo hd hg ⟨h4, hM⟩ => ?_
  · have hM2 : Mat (World.re u2 t d) (some ⟨C, 0, none⟩) n (rowsL x y) := hMat
    have hR2 : (World.re u2 t d).cell? ⟨Rb, 0, none⟩ = some (.slice (some ⟨C, 0, none⟩) n n) := hRu
    generalize World.re u2 t d = v at hM2 hR2
    simp only [q10, end32, tail32, body32, cl, cr, co, Try.f32, Option.getD_some]
    go_wp2_with fail
    exact ⟨⟨rfl, hM2⟩, Ext.refl _ _⟩
  · obtain ⟨v0, hv0⟩ : ∃ v0, v0 = a'.tmps.getD 4 undef := ⟨_, rfl⟩
    refine Gw.leave (v := a'.tmps.getD 4 undef) Try.func32 hd ?_ ?_
    · simp [results, Try.f32]
    · rw [h4]
      exact Gw.done (Post := fun v u' => ∃ C, v = .slice (some ⟨C, 0, none⟩) n n ∧ Mat u' (some ⟨C, 0, none⟩) n (rowsL x y)) ⟨C, rfl, hM⟩

set_option maxRecDepth 10000 in
theorem common_g (hx : Crs u xa n x) (hy : Crs u ya m y) (hn : n ≤ 20) (hm : m ≤ 20) (hx64 : ∀ c ∈ x, c < 64) (hy64 : ∀ c ∈ y, c < 64) :
    GCalls Try.prog 32 #[.slice xa n cx, .slice ya m cy] u fun v u' => ∃ C, v = .slice (some ⟨C, 0, none⟩) n n ∧ Mat u' (some ⟨C, 0, none⟩) n (rowsL x y) := by
  refine GCalls.of (cd := body32) Try.func32 rfl fun X c cs hXl => ?_
  refine Gw.ctl rfl (fun w => stepG_seq (x := cl body32) (y := cr body32)) ?_
  refine Gw.seg CC RR (f := 32) (N := fun a' u' => ∃ Yb, a' = ⟨#[.slice xa n cx, .slice ya m cy, undef, .pointer (some ⟨Yb, 0, none⟩), .slice none 0 0, undef, undef, undef, undef, undef, undef, undef, undef, undef, undef, undef, undef, undef, undef, undef, undef, undef, undef, undef], []⟩ ∧ u'.cell? ⟨Yb, 0, none⟩ = some (.slice ya m cy) ∧ Yb = u.heap.size ∧ u'.heap.size = u.heap.size + 1)
    (Rt := fun _ _ => False) rfl (kn_nil rfl) rfl (by kernel_rfl) (fun _ _ _ _ h => h) (fun _ _ _ _ h => h) (fun t d => ?_) (fun a' u1 hg h => ?_) fun _ _ _ _ _ h => h.elim
  · have hs := Lib.hid (show (World.re u t d).heap.size = u.heap.size from rfl)
    generalize World.re u t d = v at hs
    simp only [body32, cl, Try.f32, Option.getD_some, List.size_toArray, List.length_cons, List.length_nil, Nat.reduceAdd, Nat.reduceSub, Array.replicate_succ, Array.replicate_zero, List.push_toArray, List.append_toArray, List.nil_append, List.cons_append]
    go_wp2_with fail
    exact ⟨⟨_, rfl, by simp [go_sem], hs.out, by simp [hs.out]⟩, (Ext.refl none v).alloc _⟩
  obtain ⟨Yb, rfl, hYb, hYs, hs1⟩ := h
  have HYs := Lib.hid hYs
  clear hYs
  have hx1 : Crs u1 xa n x := hg.crs hx
  have hy1 : Crs u1 ya m y := hg.crs hy
  refine Gw.ctl rfl (fun w => stepG_seq (x := cl (cr body32)) (y := cr (cr body32))) ?_
  refine Gw.seg CC RR (f := 32) (N := fun a' u' => ∃ Rb C v9 v10 v11, ∃ arr : Array Value, a' = ⟨#[.slice xa n cx, .slice ya m cy, undef, .pointer (some ⟨Yb, 0, none⟩), .slice none 0 0, .pointer (some ⟨Rb, 0, none⟩), undef, undef, undef, v9, v10, v11, undef, undef, undef, undef, undef, undef, undef, undef, undef, undef, undef, undef], []⟩ ∧
      u'.cell? ⟨Rb, 0, none⟩ = some (.slice (some ⟨C, 0, none⟩) n n) ∧ u'.heap[C]? = some (.cells arr 44) ∧ arr.toList = List.replicate n (.slice none 0 0) ∧ C = u1.heap.size ∧ Rb ≠ C)
    (Rt := fun _ _ => False) rfl (kn_nil rfl) rfl (by kernel_rfl) (fun _ _ _ _ h => h) (fun _ _ _ _ h => h) (fun t d => ?_) (fun a' u2 hg2 h => ?_) fun _ _ _ _ _ h => h.elim
  · have hs := Lib.hid (show (World.re u1 t d).heap.size = u1.heap.size from rfl)
    generalize World.re u1 t d = v at hs
    simp only [body32, cl, cr, Try.f32, Option.getD_some]
    go_wp2_with (at_make; refine wpl_make48 _ rfl _ _ rfl n rfl rfl (by omega) ?_; intro arr harr)
    exact ⟨⟨_, _, _, _, _, arr, rfl, by simp [go_sem], (heap_alloc_old _ _ (by simp)).trans (heap_alloc_new _ _), harr, hs.out, by omega⟩, ((Ext.refl none v).alloc _).alloc _⟩
  obtain ⟨Rb, C, v9, v10, v11, arr, rfl, hRb, hC, harr, hCs, hRC⟩ := h
  have hYs := HYs.out
  have hYlt : Yb < u1.heap.size := by omega
  have cx0 : ∀ {a : Option Addr} {k : Nat} {q : List Nat}, Crs u1 a k q → ∀ ad, a = some ad → 0 < k → ad.block ≠ C := fun h ad e hk => by
    obtain ⟨b, off, e', hc⟩ := h.cell hk
    rw [e] at e'
    obtain rfl := Option.some.inj e'
    have := World.block_lt_of_cell? _ _ hc
    have : b < u1.heap.size := this
    show b ≠ C
    omega
  refine fun w hwd => common_mid (u0 := u) (hg2.crs hx1) (hg2.crs hy1) hn hm hx64 hy64 ((World.cell?_of_block (hg2.block Yb hYlt)).trans hYb) hRb hC harr (by have := hg.size; omega) (by omega) hRC (fun h => by have := hXl C h; have := hg.size; omega) (cx0 hx1) (cx0 hy1) w hwd
end
end
end Go.Proofs.Ytnifgfnhcjhodaa
