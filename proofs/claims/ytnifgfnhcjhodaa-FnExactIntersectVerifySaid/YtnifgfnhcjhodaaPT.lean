/- XPT: several texts in one. Conditions: each lemma's own. -/
import Derived.Test.YtnifgfnhcjhodaaPS
import Derived.Conc.WgGenN3
import Derived.Conc.CrowdStepC2




namespace Go.Proofs.Ytnifgfnhcjhodaa
set_option linter.unusedVariables false
set_option linter.unusedSimpArgs false
section
open Go.Conc Go.ConcN
open Go.ConcR (KK wgBlock WgAt stA smA rd wr mk Payload DC0)

/-- Where the shared blocks lie: the group, the payload of n cells; N: how many blocks there were when the workers came. -/
structure Lay where
  Wg : Nat
  C : Nat
  n : Nat
  N : Nat
structure LayOk (L : Lay) : Prop where
  hW : L.Wg < L.N
  hC : L.C < L.N
  ne : L.C ≠ L.Wg

variable [Payload]

/-- What a goroutine with own blocks o (and the payload's cell ci) suffers. -/
structure RO (ty : TypeId) (L : Lay) (ci : Option Nat) (o : List Nat) (w w₁ : World) : Prop where
  size : w.heap.size ≤ w₁.heap.size
  low : ∀ b, b < L.N → b ≠ L.Wg → b ≠ L.C → w₁.heap[b]? = w.heap[b]?
  own : ∀ b ∈ o, w₁.heap[b]? = w.heap[b]?
  live : WgLive ty L.Wg w → WgLive ty L.Wg w₁
  pay : PayAt L.C L.n w → PayAt L.C L.n w₁
  cell : ∀ i, ci = some i → w₁.cell? ⟨L.C, i, none⟩ = w.cell? ⟨L.C, i, none⟩
  io : w₁.os = w.os ∧ w₁.output = w.output

/-- What it does to the world. -/
structure DO (L : Lay) (ci : Option Nat) (o o' : List Nat) (w w' : World) : Prop where
  own : o' = o ∨ o' = w.heap.size :: o
  size : w.heap.size ≤ w'.heap.size
  new : ∀ b ∈ o', b ∈ o ∨ (b = w.heap.size ∧ b < w'.heap.size)
  keep : ∀ b, b < w.heap.size → b ∉ o → b ≠ L.C → w'.heap[b]? = w.heap[b]?
  pay : PayAt L.C L.n w → PayAt L.C L.n w'
  cells : ∀ i, ci ≠ some i → w'.cell? ⟨L.C, i, none⟩ = w.cell? ⟨L.C, i, none⟩
  io : w'.os = w.os ∧ w'.output = w.output

/-- What it may list. -/
structure EvO (L : Lay) (X : Nat → Prop) (ci : Option Nat) (o : List Nat) (B : Nat) (e : Event) : Prop where
  touch : ∀ x, (MemAct.ofEvent e).touch? = some x → ∃ a, x.loc = .cell a ∧
    ((x.kind = .plain ∧ (a.block ∈ o ∨ (∃ i, ci = some i ∧ a = ⟨L.C, i, none⟩) ∨ (x.write = false ∧ a.block < L.N ∧ a.block ≠ L.Wg ∧ a.block ≠ L.C ∧ ¬ X a.block))) ∨
     (x.kind = .atomic ∧ a.block = L.Wg) ∨ (x.kind = .said ∧ ci = none ∧ a.block = L.Wg))
  dis : e.loc ≠ .mark .disable
  ena : e.loc ≠ .mark .enable
  rel : e.loc ≠ .mark (.release (stA L.Wg))

section
variable {ty : TypeId} {L : Lay} {X : Nat → Prop} {ci : Option Nat} {o o' : List Nat} {w w₁ w₂ w' : World}

theorem RO.refl (w : World) : RO ty L ci o w w := ⟨Nat.le_refl _, fun _ _ _ _ => rfl, fun _ _ => rfl, id, id, fun _ _ => rfl, rfl, rfl⟩
theorem RO.trans (h : RO ty L ci o w w₁) (h' : RO ty L ci o w₁ w₂) : RO ty L ci o w w₂ :=
  ⟨Nat.le_trans h.size h'.size, fun b a c d => (h'.low b a c d).trans (h.low b a c d), fun b hb => (h'.own b hb).trans (h.own b hb), h'.live ∘ h.live, h'.pay ∘ h.pay, fun i hi => (h'.cell i hi).trans (h.cell i hi), h'.io.1.trans h.io.1, h'.io.2.trans h.io.2⟩
theorem RO.at (w : World) (d : Nat) : RO ty L ci o w (w.at d) := ⟨Nat.le_refl _, fun _ _ _ _ => rfl, fun _ _ => rfl, id, id, fun _ _ => rfl, rfl, rfl⟩
theorem RO.sub (h : RO ty L ci o w w₁) (hs : ∀ b ∈ o', b ∈ o) : RO ty L ci o' w w₁ := ⟨h.size, h.low, fun b hb => h.own b (hs b hb), h.live, h.pay, h.cell, h.io⟩
/-- Another's step lies within it. -/
theorem RO.of_do {ci' : Option Nat} {p p' : List Nat} (hL : LayOk L) (h : DO L ci' p p' w w') (hN : L.N ≤ w.heap.size) (hp : ∀ b ∈ p, L.N ≤ b) (ho : ∀ b ∈ o, b < w.heap.size ∧ b ∉ p ∧ b ≠ L.C) (hc : ∀ i, ci = some i → ci' ≠ some i) :
    RO ty L ci o w w' :=
  ⟨h.size, fun b h1 h2 h3 => h.keep b (by omega) (fun hb => by have := hp b hb; omega) h3, fun b hb => h.keep b (ho b hb).1 (ho b hb).2.1 (ho b hb).2.2,
   fun ⟨st, sm, hl⟩ => ⟨st, sm, hl.of_block (h.keep L.Wg (by have := hL.hW; omega) (fun hb => by have := hp _ hb; have := hL.hW; omega) (Ne.symm hL.ne))⟩, h.pay, fun i hi => h.cells i (hc i hi), h.io⟩
/-- A turn of the group's block. -/
theorem RO.of_wg (hL : LayOk L) (h : Aside L.Wg w w') (hl : WgLive ty L.Wg w') (ho : L.Wg ∉ o) : RO ty L ci o w w' :=
  ⟨Nat.le_of_eq h.size.symm, fun b _ hb _ => h.block b hb, fun b hb => h.block b (fun e => ho (e ▸ hb)), fun _ => hl, fun ⟨cs, hc, hn⟩ => ⟨cs, (h.block L.C hL.ne).trans hc, hn⟩, fun i _ => cell_of_block (h.block L.C hL.ne) i, h.os, h.output⟩
/-- The library's walks suffer less. -/
theorem RO.toRW {i : Nat} (h : RO ty L (some i) o w w₁) : RW ty L.Wg L.C L.n 0 i w w₁ := ⟨fun b hb => absurd hb (Nat.not_lt_zero _), h.live, h.pay, h.cell i rfl⟩

theorem DO.idle (w : World) : DO L ci o o w w := ⟨.inl rfl, Nat.le_refl _, fun b hb => .inl hb, fun _ _ _ _ => rfl, id, fun _ _ => rfl, rfl, rfl⟩

/-- ON THE WAY TO A STOP, n own steps at most. -/
def GoesO (P : Program) (main : Bool) (ty : TypeId) (L : Lay) (X : Nat → Prop) (ci : Option Nat) (Stop : List Nat → Goroutine → World → Prop) : Nat → List Nat → Goroutine → World → Prop
  | 0, o, g, w => ∀ w₁, RO ty L ci o w w₁ → Stop o g w₁
  | n + 1, o, g, w => (∀ w₁, RO ty L ci o w w₁ → Stop o g w₁) ∨ (g.status = .running ∧ ∀ w₁, RO ty L ci o w w₁ → (stepG P main g w₁).goes fun g' w' es =>
      ∃ o', (DO L ci o o' w₁ w' ∧ ∀ e ∈ es, EvO L X ci o' w'.heap.size e) ∧ GoesO P main ty L X ci Stop n o' g' w')

variable {P : Program} {main : Bool} {Stop : List Nat → Goroutine → World → Prop} {n : Nat} {g : Goroutine}

theorem GoesO.stop (h : ∀ w₁, RO ty L ci o w w₁ → Stop o g w₁) : GoesO P main ty L X ci Stop n o g w := by
  cases n with
  | zero => exact h
  | succ n => exact .inl h
theorem GoesO.step (hs : g.status = .running) (h : ∀ w₁, RO ty L ci o w w₁ → (stepG P main g w₁).goes fun g' w' es =>
      ∃ o', (DO L ci o o' w₁ w' ∧ ∀ e ∈ es, EvO L X ci o' w'.heap.size e) ∧ GoesO P main ty L X ci Stop n o' g' w') : GoesO P main ty L X ci Stop (n + 1) o g w := .inr ⟨hs, h⟩
theorem GoesO.rely (h : GoesO P main ty L X ci Stop n o g w) (hr : RO ty L ci o w w₁) : GoesO P main ty L X ci Stop n o g w₁ := by
  cases n with
  | zero => exact fun w₂ h₂ => h w₂ (hr.trans h₂)
  | succ n =>
    rcases h with h | ⟨hs, h⟩
    · exact .inl fun w₂ h₂ => h w₂ (hr.trans h₂)
    · exact .inr ⟨hs, fun w₂ h₂ => h w₂ (hr.trans h₂)⟩
theorem GoesO.more (h : GoesO P main ty L X ci Stop n o g w) : GoesO P main ty L X ci Stop (n + 1) o g w := by
  induction n generalizing o g w with
  | zero => exact .inl h
  | succ n ih =>
    rcases h with h | ⟨hs, h⟩
    · exact .inl h
    · refine .inr ⟨hs, fun w₁ h₁ => ?_⟩
      have := h w₁ h₁
      revert this
      cases stepG P main g w₁ <;> simp only [GStep.goes, imp_self]
      exact fun ⟨o', d, x⟩ => ⟨o', d, ih x⟩
theorem GoesO.mono {m : Nat} (h : GoesO P main ty L X ci Stop n o g w) (hm : n ≤ m) : GoesO P main ty L X ci Stop m o g w := by
  induction hm with
  | refl => exact h
  | step _ ih => exact ih.more
theorem GoesO.running (hr : ∀ o g w, Stop o g w → g.status = .running) (h : GoesO P main ty L X ci Stop n o g w) : g.status = .running := by
  cases n with
  | zero => exact hr o g w (h w (.refl w))
  | succ n => exact h.elim (fun x => hr o g w (x w (.refl w))) (·.1)
/-- Its cases at the world at hand. -/
theorem GoesO.cases (h : GoesO P main ty L X ci Stop n o g w) : Stop o g w ∨ ∃ m g' w' es o', n = m + 1 ∧ stepG P main g w = .go g' w' es ∧ DO L ci o o' w w' ∧ (∀ e ∈ es, EvO L X ci o' w'.heap.size e) ∧ GoesO P main ty L X ci Stop m o' g' w' := by
  cases n with
  | zero => exact .inl (h w (.refl w))
  | succ n =>
    rcases h with h | ⟨_, h⟩
    · exact .inl (h w (.refl w))
    · have := h w (.refl w)
      cases hs : stepG P main g w with
      | go g' w' es =>
        rw [hs] at this
        obtain ⟨o', ⟨h1, h2⟩, h3⟩ := this
        exact .inr ⟨n, g', w', es, o', rfl, rfl, h1, h2, h3⟩
      | _ => rw [hs] at this; exact this.elim
theorem GoesO.casesA (h : GoesO P main ty L X ci Stop n o g w) : (∀ w₁, RO ty L ci o w w₁ → Stop o g w₁) ∨ ∃ m g' w' es o', n = m + 1 ∧ stepG P main g w = .go g' w' es ∧ DO L ci o o' w w' ∧ (∀ e ∈ es, EvO L X ci o' w'.heap.size e) ∧ GoesO P main ty L X ci Stop m o' g' w' := by
  cases n with
  | zero => exact .inl h
  | succ n =>
    rcases h with h | ⟨_, h⟩
    · exact .inl h
    · have := h w (.refl w)
      cases hs : stepG P main g w with
      | go g' w' es =>
        rw [hs] at this
        obtain ⟨o', ⟨h1, h2⟩, h3⟩ := this
        exact .inr ⟨n, g', w', es, o', rfl, rfl, h1, h2, h3⟩
      | _ => rw [hs] at this; exact this.elim
/-- The library's walk, taken in. -/
theorem GoesO.of_goes {R : World → World → Prop} {D : World → World → Array Event → Prop} {S : Goroutine → World → Prop} (hR : ∀ a b, RO ty L ci o a b → R a b) (hD : ∀ a b es, D a b es → DO L ci o o a b ∧ ∀ e ∈ es, EvO L X ci o b.heap.size e)
    (hS : ∀ g w, S g w → Stop o g w) : ∀ {n : Nat} {g : Goroutine} {w : World}, Goes P main R D S n g w → GoesO P main ty L X ci Stop n o g w
  | 0, g, w, h => fun w₁ h₁ => hS _ _ (h w₁ (hR _ _ h₁))
  | n + 1, g, w, h => by
    rcases h with h | ⟨hs, h⟩
    · exact .inl fun w₁ h₁ => hS _ _ (h w₁ (hR _ _ h₁))
    · refine .inr ⟨hs, fun w₁ h₁ => ?_⟩
      have := h w₁ (hR _ _ h₁)
      revert this
      cases stepG P main g w₁ <;> simp only [GStep.goes, imp_self]
      exact fun ⟨d, x⟩ => ⟨o, hD _ _ _ d, GoesO.of_goes hR hD hS x⟩
end
end

section
open Go.Conc Go.ConcN
open Go.ConcR (KK wgBlock WgAt stA smA rd wr mk Payload DC0 Bk)

/-- The shared places: the shunned blocks of earlier phases and the group. -/
def ShP (L : Lay) (X : Nat → Prop) : Loc → Prop := fun l => ∃ a, l = .cell a ∧ (X a.block ∨ a.block = L.Wg)
/-- Worker number i is goroutine old + 1 + i; what is its own. -/
def OwnGo (L : Lay) (old j : Nat) (O : Nat → List Nat) (g : Nat) : Loc → Prop := fun l => ∃ i, i < j ∧ g = old + 1 + i ∧ ∃ a, l = .cell a ∧ (a.block ∈ O i ∨ a = ⟨L.C, i, none⟩)
/-- What workers may read. -/
def RdG (L : Lay) (X : Nat → Prop) (old : Nat) (g : Nat) : Loc → Prop := fun l => old < g ∧ ∃ a, l = .cell a ∧ a.block < L.N ∧ a.block ≠ L.Wg ∧ a.block ≠ L.C ∧ ¬ X a.block

/-- The lists of own blocks lie apart, above N. -/
structure Lists (L : Lay) (j : Nat) (O : Nat → List Nat) (o0 : List Nat) (B : Nat) : Prop where
  lo : ∀ i, i < j → ∀ b ∈ O i, L.N ≤ b ∧ b < B
  lo0 : ∀ b ∈ o0, L.N ≤ b ∧ b < B
  dj : ∀ i i', i < j → i' < j → i ≠ i' → ∀ b ∈ O i, b ∉ O i'
  dj0 : ∀ i, i < j → ∀ b ∈ O i, b ∉ o0

section
variable {L : Lay} {X : Nat → Prop} {old j : Nat} {O : Nat → List Nat} {o0 : List Nat} {B : Nat}

theorem apartP (hL : LayOk L) (hX : ∀ b, X b → b < L.N ∧ b ≠ L.C) (h : Lists L j O o0 B) : Apart (ShP L X) (OwnGo L old j O) (RdG L X old) := by
  refine ⟨fun k k' l h1 h2 => ?_, fun k k' l h1 h2 => ?_, fun k l h1 h2 => ?_, fun k l h1 h2 => ?_⟩
  · obtain ⟨i, hi, rfl, a, rfl, ha⟩ := h1
    obtain ⟨i', hi', rfl, a', e, ha'⟩ := h2
    cases e
    by_cases e : i = i'
    · rw [e]
    · exfalso
      rcases ha with ha | ha <;> rcases ha' with ha' | ha'
      · exact h.dj i i' hi hi' e _ ha ha'
      · have := (h.lo i hi _ ha).1
        rw [ha'] at this
        have := hL.hC
        simp only at *
        omega
      · have := (h.lo i' hi' _ ha').1
        rw [ha] at this
        have := hL.hC
        simp only at *
        omega
      · rw [ha] at ha'
        simp at ha'
        exact e ha'
  · obtain ⟨i, hi, rfl, a, rfl, ha⟩ := h1
    obtain ⟨_, a', e, h3, h4, h5, _⟩ := h2
    cases e
    rcases ha with ha | rfl
    · have := (h.lo i hi _ ha).1; omega
    · exact h5 rfl
  · obtain ⟨i, hi, rfl, a, rfl, ha⟩ := h1
    obtain ⟨a', e, h3⟩ := h2
    cases e
    rcases ha with ha | rfl
    · have := (h.lo i hi _ ha).1
      rcases h3 with h3 | h3
      · have := (hX _ h3).1; omega
      · have := hL.hW; omega
    · rcases h3 with h3 | h3
      · exact (hX _ h3).2 rfl
      · exact hL.ne h3
  · obtain ⟨_, a, rfl, h3, h4, h5, h6⟩ := h1
    obtain ⟨a', e, h7⟩ := h2
    cases e
    rcases h7 with h7 | h7
    · exact h6 h7
    · exact h4 h7

/-- Every place that is touched lies below B. -/
def SeenB (B : Nat) (t : Trace) : Prop := ∀ i a, touchAt t i = some a → a.loc.low B
theorem SeenB.mono {B' : Nat} {t : Trace} (h : SeenB B t) (hB : B ≤ B') : SeenB B' t := fun i a ha => Loc.low_mono hB (h i a ha)
theorem SeenB.app {t u : Trace} (h : SeenB B t) (hu : ∀ op ∈ u, ∀ x, op.act.touch? = some x → x.loc.low B) : SeenB B (t ++ u) := by
  intro i a ha
  obtain ⟨x, hx, hxa⟩ := touch_of ha
  rcases getElem?_append_cases hx with ⟨_, hx'⟩ | ⟨_, hxu⟩
  · exact h i a (by rw [touchAt_of hx']; exact hxa)
  · exact hu x hxu a hxa
/-- No release of the address from entry n on. -/
def NoRelF (ad : Addr) (n : Nat) (t : Trace) : Prop := ∀ i, n ≤ i → t.act? i ≠ some (.mark (.release ad))
theorem NoRelF.app {ad : Addr} {n : Nat} {t u : Trace} (h : NoRelF ad n t) (hu : ∀ op ∈ u, op.act ≠ .mark (.release ad)) : NoRelF ad n (t ++ u) := by
  intro i hi hi'
  obtain ⟨op, ho, hoa⟩ := Option.map_eq_some_iff.1 hi'
  rcases getElem?_append_cases ho with ⟨_, ho'⟩ | ⟨_, hou⟩
  · exact h i hi (by rw [act?_of ho', hoa])
  · exact hu op hou hoa
theorem low_touch {B : Nat} {x : MemAct} {y : Touch} (h : x.low B) (hy : x.touch? = some y) : y.loc.low B := by
  cases x with
  | access e => simp only [MemAct.touch?, Option.some.injEq] at hy; subst hy; exact h
  | mark m =>
    cases m <;> simp only [MemAct.touch?, Option.some.injEq, reduceCtorEq] at hy
    all_goals (subst hy; exact h)
  | _ => simp [MemAct.touch?] at hy

/-- Own places may be laid anew where nothing has been touched. -/
theorem CT.own {Sh : Loc → Prop} {Own Own' Rd : Nat → Loc → Prop} {t : Trace} {jj : Nat} (h : CT Sh Own Rd t jj) (h1 : ∀ g, 1 ≤ g → g ≤ jj → ∀ l, Own g l → Own' g l)
    (h2 : ∀ g, 1 ≤ g → g ≤ jj → ∀ l, Own' g l → Own g l ∨ ∀ i a, touchAt t i = some a → a.loc ≠ l) : CT Sh Own' Rd t jj := by
  refine ⟨h.quiet, fun k k1 kj l hl => ?_, h.rd, fun l hs hl => h.free l hs fun k k1 kj => ⟨fun ho => (hl k k1 kj).1 (h1 k k1 kj l ho), (hl k k1 kj).2⟩, fun l hs hl => h.mine l hs fun k k1 kj ho => hl k k1 kj (h1 k k1 kj l ho), h.nr, h.gs⟩
  rcases h2 k k1 kj l hl with ho | hn
  · exact h.own k k1 kj l ho
  · exact fun i a ha e => absurd e (hn i a ha)

theorem untouched {t : Trace} (h : SeenB B t) {b : Nat} (hb : B ≤ b) {ad : Addr} (ha : ad.block = b) : ∀ i a, touchAt t i = some a → a.loc ≠ .cell ad := by
  intro i a hi e
  have := h i a hi
  rw [e] at this
  have : ad.block < B := this
  omega
end
end

section
open Go.Conc Go.ConcN
open Go.ConcR (KK wgBlock WgAt stA smA rd wr mk Payload DC0 Bk again_blocked)

/-- All that a phase is told once: the program, the group's type, the lay, the shunned blocks, what a worker leaves (Fin), where the starter is to stand in the end (Anc), what the payload's cells hold at first (z). -/
structure Ph where
  P : Program
  ty : TypeId
  L : Lay
  X : Nat → Prop
  Fin : Nat → List Nat → World → Prop
  Anc : Goroutine → World → Prop
  z : Value

variable [Payload]

section
variable (H : Ph)

/-! ### a worker -/
def Ph.AtR (i : Nat) (o : List Nat) (g : Goroutine) (w : World) : Prop := (∃ v, AtR0 H.P H.ty H.L.Wg H.L.C H.L.n 0 (i + 1) v g w) ∧ H.Fin i o w

inductive Ph.Wk (i : Nat) (o : List Nat) : Nat → Nat → Nat → Goroutine → World → Prop
  | r0 {m : Nat} {g : Goroutine} {w : World} : GoesO H.P false H.ty H.L H.X (some i) (H.AtR i) m o g w → Ph.Wk i o 7 m 0 g w
  | k1 {m : Nat} {g : Goroutine} {w : World} : Goes H.P false (RW H.ty H.L.Wg H.L.C H.L.n 0 i) DC0 (AtK1 H.P H.ty H.L.Wg H.L.C H.L.n 0 (i + 1)) m g w → Ph.Wk i o 6 m 0 g w
  | d1 {m : Nat} {g : Goroutine} {w : World} : Goes H.P false (RW H.ty H.L.Wg H.L.C H.L.n 0 i) DC0 (AtD1 H.P H.ty H.L.Wg H.L.C H.L.n 0 (i + 1)) m g w → Ph.Wk i o 5 m 1 g w
  | d2 {m : Nat} {g : Goroutine} {w : World} : Goes H.P false (RW H.ty H.L.Wg H.L.C H.L.n 0 i) DC0 (AtD2 H.P H.ty H.L.Wg H.L.C H.L.n 0 (i + 1)) m g w → Ph.Wk i o 4 m 1 g w
  | d3 {m : Nat} {g : Goroutine} {w : World} : Goes H.P false (RW H.ty H.L.Wg H.L.C H.L.n 0 i) DC0 (AtD3 H.P H.ty H.L.Wg H.L.C H.L.n 0 (i + 1)) m g w → Ph.Wk i o 3 m 1 g w
  | d4 {m : Nat} {g : Goroutine} {w : World} : Goes H.P false (RW H.ty H.L.Wg H.L.C H.L.n 0 i) DC0 (AtD4 H.P H.ty H.L.Wg) m g w → Ph.Wk i o 2 m 1 g w
  | quit {q d : Nat} {g : Goroutine} {w : World} : QuitsD H.P q d g → Ph.Wk i o 1 q d g w

/-! ### the starter, from its end backwards -/
abbrev Ph.GP (Stop : List Nat → Goroutine → World → Prop) := GoesO H.P true H.ty H.L H.X none Stop
def Ph.AtRet (_o : List Nat) (g : Goroutine) (w : World) : Prop := g.status = .running ∧ H.Anc g w
def Ph.AtAcq (o : List Nat) (g : Goroutine) (w : World) : Prop := g.status = .running ∧ ∃ g', stepG H.P true g w = .go g' w #[ConcR.mk (.acquire (stA H.L.Wg))] ∧ ∃ m, H.GP H.AtRet m o g' w
def Ph.AtKe (o : List Nat) (g : Goroutine) (w : World) : Prop := g.status = .running ∧ ∃ g', stepG H.P true g w = .go g' w #[ConcR.mk .enable] ∧ ∃ m, H.GP H.AtAcq m o g' w
def Ph.AtW4 (o : List Nat) (g : Goroutine) (w : World) : Prop := g.status = .running ∧ (WgAt H.ty H.L.Wg w 0 0 → ∃ g', stepG H.P true g w = .go g' w #[rd (stA H.L.Wg)] ∧ ∃ m, H.GP H.AtKe m o g' w)
def Ph.AtW3 (o : List Nat) (g : Goroutine) (w : World) : Prop :=
  g.status = .running ∧ g.offers = none ∧
    ((∃ st, WgAt H.ty H.L.Wg w st 0) → stepG H.P true g w = .go { g with status := .blocked } w #[]) ∧
    (WgAt H.ty H.L.Wg w 0 1 → ∃ g', stepG H.P true g w = .go g' (w.setCell (smA H.L.Wg) (.int .u32 0)) (semEvents (smA H.L.Wg)) ∧ ∃ m, H.GP H.AtW4 m o g' (w.setCell (smA H.L.Wg) (.int .u32 0)))
variable (AW : List Nat → Goroutine → World → Prop)
def Ph.AtW2 (vs : Nat) (o : List Nat) (g : Goroutine) (w : World) : Prop :=
  g.status = .running ∧ ∀ v : Nat, v < 2147483648 → WgAt H.ty H.L.Wg w (v * KK) 0 →
    (v = vs → ∃ g', stepG H.P true g w = .go g' (w.setCell (stA H.L.Wg) (.int .u64 (v * KK + 1))) #[rd (stA H.L.Wg), wr (stA H.L.Wg)] ∧ ∃ m, H.GP H.AtW3 m o g' (w.setCell (stA H.L.Wg) (.int .u64 (v * KK + 1)))) ∧
    (v ≠ vs → ∃ g', stepG H.P true g w = .go g' w #[rd (stA H.L.Wg)] ∧ ∃ m, H.GP AW m o g' w)
def Ph.AtW1 (o : List Nat) (g : Goroutine) (w : World) : Prop :=
  g.status = .running ∧ ∀ v : Nat, v < 2147483648 → WgAt H.ty H.L.Wg w (v * KK) 0 → ∃ g', stepG H.P true g w = .go g' w #[rd (stA H.L.Wg)] ∧
    (v = 0 → ∃ m, H.GP H.AtKe m o g' w) ∧ (v ≠ 0 → ∃ m, H.GP (H.AtW2 AW v) m o g' w)
def Ph.AtKd (o : List Nat) (g : Goroutine) (w : World) : Prop := g.status = .running ∧ ∃ g', stepG H.P true g w = .go g' w #[ConcR.mk .disable] ∧ ∃ m, H.GP AW m o g' w

/-! ### while it starts them -/
def Ph.AtGoS (j : Nat) (Next : List Nat → Goroutine → World → Prop) (o : List Nat) (g : Goroutine) (w : World) : Prop :=
  g.status = .running ∧ ∃ g' child, stepG H.P true g w = .spawn g' child w #[] ∧ child.status = .running ∧ (PayAt H.L.C H.L.n w → WgLive H.ty H.L.Wg w → w.cell? ⟨H.L.C, j, none⟩ = some H.z → ∃ m, GoesO H.P false H.ty H.L H.X (some j) (H.AtR j) m o child w) ∧ Next [] g' w
def Ph.AtKeS (j : Nat) (Next : List Nat → Goroutine → World → Prop) (o : List Nat) (g : Goroutine) (w : World) : Prop :=
  g.status = .running ∧ ∃ g', stepG H.P true g w = .go g' w #[ConcR.mk .enable] ∧ ∃ m, H.GP (H.AtGoS j Next) m o g' w
def Ph.AtA1 (j : Nat) (Next : List Nat → Goroutine → World → Prop) (o : List Nat) (g : Goroutine) (w : World) : Prop :=
  g.status = .running ∧ ∀ v : Nat, v < 2147483647 → WgAt H.ty H.L.Wg w (v * KK) 0 →
    ∃ g', stepG H.P true g w = .go g' (w.setCell (stA H.L.Wg) (.int .u64 ((v + 1) * KK))) #[rd (stA H.L.Wg), wr (stA H.L.Wg)] ∧ ∃ m, H.GP (H.AtKeS j Next) m o g' (w.setCell (stA H.L.Wg) (.int .u64 ((v + 1) * KK)))
def Ph.AtKdS (j : Nat) (Next : List Nat → Goroutine → World → Prop) (o : List Nat) (g : Goroutine) (w : World) : Prop :=
  g.status = .running ∧ ∃ g', stepG H.P true g w = .go g' w #[ConcR.mk .disable] ∧ ∃ m, H.GP (H.AtA1 j Next) m o g' w
/-- r workers are still to be started. -/
def Ph.Spawns (Fn : List Nat → Goroutine → World → Prop) : Nat → List Nat → Goroutine → World → Prop
  | 0, o, g, w => Fn o g w
  | r + 1, o, g, w => ∃ m, H.GP (H.AtKdS (H.L.n - (r + 1)) (Ph.Spawns Fn r)) m o g w
/-- Into Wait. -/
def Ph.FinS (o : List Nat) (g : Goroutine) (w : World) : Prop := ∃ m, H.GP (H.AtKd AW) m o g w


/-- tag, how many are started, fuel, deafness. -/
inductive Ph.Cs : CTag → Nat → Nat → Nat → List Nat → Goroutine → World → Prop
  | skd {r m : Nat} {o : List Nat} {g : Goroutine} {w : World} : r < H.L.n → H.GP (H.AtKdS (H.L.n - (r + 1)) (Ph.Spawns H (Ph.FinS H AW) r)) m o g w → Ph.Cs (.sp r 5) (H.L.n - (r + 1)) m 0 o g w
  | sa1 {r m : Nat} {o : List Nat} {g : Goroutine} {w : World} : r < H.L.n → H.GP (H.AtA1 (H.L.n - (r + 1)) (Ph.Spawns H (Ph.FinS H AW) r)) m o g w → Ph.Cs (.sp r 4) (H.L.n - (r + 1)) m 1 o g w
  | ske {r m : Nat} {o : List Nat} {g : Goroutine} {w : World} : r < H.L.n → H.GP (H.AtKeS (H.L.n - (r + 1)) (Ph.Spawns H (Ph.FinS H AW) r)) m o g w → Ph.Cs (.sp r 3) (H.L.n - (r + 1)) m 1 o g w
  | sgo {r m : Nat} {o : List Nat} {g : Goroutine} {w : World} : r < H.L.n → H.GP (H.AtGoS (H.L.n - (r + 1)) (Ph.Spawns H (Ph.FinS H AW) r)) m o g w → Ph.Cs (.sp r 2) (H.L.n - (r + 1)) m 0 o g w
  | kd {m : Nat} {o : List Nat} {g : Goroutine} {w : World} : H.GP (H.AtKd AW) m o g w → Ph.Cs .kd H.L.n m 0 o g w
  | anch {m : Nat} {o : List Nat} {g : Goroutine} {w : World} : H.GP AW m o g w → Ph.Cs .anch H.L.n m 1 o g w
  | w1 {m : Nat} {o : List Nat} {g : Goroutine} {w : World} : H.GP (H.AtW1 AW) m o g w → Ph.Cs .w1 H.L.n m 1 o g w
  | w2 {vs m : Nat} {o : List Nat} {g : Goroutine} {w : World} : H.GP (H.AtW2 AW vs) m o g w → Ph.Cs (.w2 vs) H.L.n m 1 o g w
  | w3 {m : Nat} {o : List Nat} {g : Goroutine} {w : World} : H.GP H.AtW3 m o g w → Ph.Cs .w3 H.L.n (m + 1) 1 o g w
  | blk {o : List Nat} {g : Goroutine} {w : World} : (∀ w₁, RO H.ty H.L none o w w₁ → H.AtW3 o g w₁) → Ph.Cs .blk H.L.n 0 1 o { g with status := .blocked } w
  | w4 {m : Nat} {o : List Nat} {g : Goroutine} {w : World} : H.GP H.AtW4 m o g w → Ph.Cs .w4 H.L.n m 1 o g w
  | ke {m : Nat} {o : List Nat} {g : Goroutine} {w : World} : H.GP H.AtKe m o g w → Ph.Cs .ke H.L.n m 1 o g w
  | acq {m : Nat} {o : List Nat} {g : Goroutine} {w : World} : H.GP H.AtAcq m o g w → Ph.Cs .acq H.L.n m 0 o g w
  | ret {m : Nat} {o : List Nat} {g : Goroutine} {w : World} : H.GP H.AtRet m o g w → Ph.Cs .ret H.L.n m 0 o g w
end

section
variable {H : Ph} {i s m d : Nat} {o : List Nat} {g : Goroutine} {w w₁ : World}

theorem Ph.Wk.rely (h : H.Wk i o s m d g w) (hr : RO H.ty H.L (some i) o w w₁) : H.Wk i o s m d g w₁ := by
  have tr : ∀ a b c, RW H.ty H.L.Wg H.L.C H.L.n 0 i a b → RW H.ty H.L.Wg H.L.C H.L.n 0 i b c → RW H.ty H.L.Wg H.L.C H.L.n 0 i a c := fun _ _ _ h1 h2 => h1.trans h2
  cases h with
  | r0 h => exact .r0 (h.rely hr)
  | k1 h => exact .k1 (Goes.rely tr h hr.toRW)
  | d1 h => exact .d1 (Goes.rely tr h hr.toRW)
  | d2 h => exact .d2 (Goes.rely tr h hr.toRW)
  | d3 h => exact .d3 (Goes.rely tr h hr.toRW)
  | d4 h => exact .d4 (Goes.rely tr h hr.toRW)
  | quit h => exact .quit h

theorem Ph.Wk.running_of (h : H.Wk i o s m d g w) (hs : s ≠ 1) : g.status = .running := by
  cases h with
  | r0 h => exact h.running fun _ _ _ x => x.1.choose_spec.1
  | k1 h => exact Goes.running (fun _ _ x => x.1) w (RW.refl w) h
  | d1 h => exact Goes.running (fun _ _ x => x.1) w (RW.refl w) h
  | d2 h => exact Goes.running (fun _ _ x => x.1) w (RW.refl w) h
  | d3 h => exact Goes.running (fun _ _ x => x.1) w (RW.refl w) h
  | d4 h => exact Goes.running (fun _ _ x => x.1) w (RW.refl w) h
  | quit _ => exact absurd rfl hs
theorem Ph.Wk.status (h : H.Wk i o s m d g w) : g.status = .running ∨ g.status = .finished := by
  by_cases hs : s = 1
  · subst hs
    cases h with
    | quit h => exact h.status
  · exact .inl (h.running_of hs)
theorem Ph.Wk.woken (h : H.Wk i o s m d g w) (a a' : Goroutine) (w' : World) : Conc.woken H.P a a' w' g = g := by
  unfold Conc.woken
  split
  · exact again_running _ h.status
  · rfl
theorem Ph.Wk.quits (h : H.Wk i o s m d g w) (hs : s = 1) : QuitsD H.P m d g := by
  cases h <;> first | (exact absurd hs (by decide)) | assumption
end

section
variable {H : Ph} {AW : List Nat → Goroutine → World → Prop} {tag : CTag} {j f d : Nat} {o : List Nat} {a : Goroutine} {w w' : World}

theorem Ph.Cs.rely (h : H.Cs AW tag j f d o a w) (hr : RO H.ty H.L none o w w') : H.Cs AW tag j f d o a w' := by
  cases h with
  | skd hn h => exact .skd hn (h.rely hr)
  | sa1 hn h => exact .sa1 hn (h.rely hr)
  | ske hn h => exact .ske hn (h.rely hr)
  | sgo hn h => exact .sgo hn (h.rely hr)
  | kd h => exact .kd (h.rely hr)
  | anch h => exact .anch (h.rely hr)
  | w1 h => exact .w1 (h.rely hr)
  | w2 h => exact .w2 (h.rely hr)
  | w3 h => exact .w3 (h.rely hr)
  | blk h => exact .blk (fun w₂ h₂ => h w₂ (hr.trans h₂))
  | w4 h => exact .w4 (h.rely hr)
  | ke h => exact .ke (h.rely hr)
  | acq h => exact .acq (h.rely hr)
  | ret h => exact .ret (h.rely hr)

theorem Ph.Cs.status (hAr : ∀ o g w, AW o g w → g.status = .running) (h : H.Cs AW tag j f d o a w) : (a.status = .running ∧ tag ≠ .blk) ∨ (a.status = .blocked ∧ tag = .blk) := by
  cases h with
  | anch h => exact .inl ⟨h.running hAr, by simp⟩
  | blk h => exact .inr ⟨rfl, rfl⟩
  | skd _ h => exact .inl ⟨h.running (fun _ _ _ x => x.1), by simp⟩
  | sa1 _ h => exact .inl ⟨h.running (fun _ _ _ x => x.1), by simp⟩
  | ske _ h => exact .inl ⟨h.running (fun _ _ _ x => x.1), by simp⟩
  | sgo _ h => exact .inl ⟨h.running (fun _ _ _ x => x.1), by simp⟩
  | kd h => exact .inl ⟨h.running (fun _ _ _ x => x.1), by simp⟩
  | w1 h => exact .inl ⟨h.running (fun _ _ _ x => x.1), by simp⟩
  | w2 h => exact .inl ⟨h.running (fun _ _ _ x => x.1), by simp⟩
  | w3 h => exact .inl ⟨h.running (fun _ _ _ x => x.1), by simp⟩
  | w4 h => exact .inl ⟨h.running (fun _ _ _ x => x.1), by simp⟩
  | ke h => exact .inl ⟨h.running (fun _ _ _ x => x.1), by simp⟩
  | acq h => exact .inl ⟨h.running (fun _ _ _ x => x.1), by simp⟩
  | ret h => exact .inl ⟨h.running (fun _ _ _ x => x.1), by simp⟩

theorem Ph.Cs.wokenBy (hAr : ∀ o g w, AW o g w → g.status = .running) (h : H.Cs AW tag j f d o a w) (hr : RO H.ty H.L none o w w') (g g' : Goroutine) :
    ∃ tag' f', H.Cs AW tag' j f' d o (Conc.woken H.P g g' w' a) w' ∧ f' ≤ f + 1 ∧ (tag' = tag ∨ (tag = .blk ∧ tag' = .w3)) ∧ (mayWake H.P g = true → g'.status = .running → tag' ≠ .blk) := by
  have h' := h.rely hr
  unfold Conc.woken
  split
  · rcases h'.status hAr with ⟨hs, hne⟩ | ⟨_, rfl⟩
    · exact ⟨tag, f, by rw [again_running _ (.inl hs)]; exact h', by omega, .inl rfl, fun _ _ => hne⟩
    · cases h' with
      | blk hb =>
        have h3 := hb w' (.refl w')
        exact ⟨.w3, 0 + 1, by rw [again_blocked h3.1 h3.2.1]; exact .w3 (GoesO.stop hb), by omega, .inr ⟨rfl, rfl⟩, fun _ _ => by simp⟩
  · rename_i hc
    exact ⟨tag, f, h', by omega, .inl rfl, fun h1 h2 => absurd (by simp [h1, h2]) hc⟩

theorem Ph.Cs.bound (h : H.Cs AW tag j f d o a w) : j + pend tag ≤ H.L.n := by
  cases h <;> simp only [pend] <;> (try simp) <;> omega
end
end

section
open Go.Conc Go.ConcN
open Go.ConcR (KK wgBlock WgAt stA smA rd wr Payload DC0 Bk g_of_ofEvents)

section
variable {old j : Nat} {t0 : Trace} {w : World} {t : Trace} {O : Nat → List Nat} {o' : List Nat}
theorem of_mem {γ : Nat} {fn : FuncId} {pos : String} {es : Array Event} {op : MemOp} (h : op ∈ MemOp.ofEvents γ fn pos es) : ∃ e ∈ es, op = { g := γ, fn, pos, act := .ofEvent e } := Conc.mem_ofEvents h

/-- The trace's small matters, where it grows by one goroutine's entries. -/
theorem grow_atm {Sh : Loc → Prop} {u : Trace} (h : ∀ i a, touchAt t i = some a → a.kind = .atomic → Sh a.loc ∨ Knows t 0 i) (hu : ∀ op ∈ u, ∀ x, op.act.touch? = some x → x.kind = .atomic → Sh x.loc) :
    ∀ i a, touchAt (t ++ u) i = some a → a.kind = .atomic → Sh a.loc ∨ Knows (t ++ u) 0 i := by
  intro i a ha hk
  obtain ⟨x, hx, hxa⟩ := touch_of ha
  rcases getElem?_append_cases hx with ⟨_, hx'⟩ | ⟨_, hxu⟩
  · exact (h i a (by rw [touchAt_of hx']; exact hxa) hk).imp id (·.app u)
  · exact .inl (hu x hxu a hxa hk)
theorem grow_mem {u : Trace} (h : ∀ i a, touchAt t i = some a → a.loc.isMemory = true) (hu : ∀ op ∈ u, ∀ x, op.act.touch? = some x → x.loc.isMemory = true) :
    ∀ i a, touchAt (t ++ u) i = some a → a.loc.isMemory = true := by
  intro i a ha
  obtain ⟨x, hx, hxa⟩ := touch_of ha
  rcases getElem?_append_cases hx with ⟨_, hx'⟩ | ⟨_, hxu⟩
  · exact h i a (by rw [touchAt_of hx']; exact hxa)
  · exact hu x hxu a hxa
theorem grow_base {u : Trace} (h : ∃ v, t = t0 ++ v ∧ ∀ op ∈ v, op.g = 0 ∨ old < op.g ∨ op.act.touch? = none) (hu : ∀ op ∈ u, op.g = 0 ∨ old < op.g ∨ op.act.touch? = none) : ∃ v, t ++ u = t0 ++ v ∧ ∀ op ∈ v, op.g = 0 ∨ old < op.g ∨ op.act.touch? = none := by
  obtain ⟨v, rfl, hv⟩ := h
  exact ⟨v ++ u, by rw [Array.append_assoc], fun op hop => (Array.mem_append.1 hop).elim (hv op) (hu op)⟩

theorem ownG_mono {L : Lay} {O O' : Nat → List Nat} (h : ∀ i, i < j → ∀ b ∈ O i, b ∈ O' i) (g : Nat) (l : Loc) (hl : OwnGo L old j O g l) : OwnGo L old j O' g l := by
  obtain ⟨i, hi, e, a, ea, ha⟩ := hl
  exact ⟨i, hi, e, a, ea, ha.imp (h i hi _) id⟩

/-- The own places of the trace's law, where worker i has made memory. -/
theorem ct_grow {L : Lay} {X : Nat → Prop} (h : CT (ShP L X) (OwnGo L old j O) (RdG L X old) t (old + j)) (hs : SeenB w.heap.size t) {i : Nat} (hsub : ∀ b ∈ O i, b ∈ o') (hnew : ∀ b ∈ o', b ∈ O i ∨ w.heap.size ≤ b) :
    CT (ShP L X) (OwnGo L old j (upd O i o')) (RdG L X old) t (old + j) := by
  refine CT.own h (fun g _ _ l hl => ownG_mono (fun i' _ b hb => ?_) g l hl) fun g _ _ l hl => ?_
  · by_cases e : i' = i
    · subst e; rw [upd_same]; exact hsub b hb
    · rw [upd_ne O _ e]; exact hb
  · obtain ⟨i', hi', e, a, ea, ha⟩ := hl
    by_cases ei : i' = i
    · subst ei
      rw [upd_same] at ha
      rcases ha with ha | ha
      · rcases hnew _ ha with hb | hb
        · exact .inl ⟨i', hi', e, a, ea, .inl hb⟩
        · right
          rw [ea]
          exact untouched hs hb rfl
      · exact .inl ⟨i', hi', e, a, ea, .inr ha⟩
    · rw [upd_ne O _ ei] at ha
      exact .inl ⟨i', hi', e, a, ea, ha⟩

end

variable [Payload]

structure Cm (H : Ph) (old : Nat) (t0 : Trace) (j : Nat) (gs : Array Goroutine) (w : World) (t : Trace) (D : Nat → WD) (O : Nat → List Nat) (o0 : List Nat) (d0 : Nat) (q : Nat → Nat) : Prop where
  size : gs.size = old + 1 + j
  wk : ∀ i, i < j → ∃ g, gs[old + 1 + i]? = some g ∧ H.Wk i (O i) (D i).stage (D i).fuel (D i).deaf g w
  elder : ∀ i g, 0 < i → i ≤ old → gs[i]? = some g → QuitsD H.P (q i) (Deaf t i) g
  above : ∀ i, gs.size ≤ i → Deaf t i = 0
  ct : CT (ShP H.L H.X) (OwnGo H.L old j O) (RdG H.L H.X old) t (old + j)
  norel : NoRelF (stA H.L.Wg) t0.size t
  deaf0 : Deaf t 0 = d0
  deafW : ∀ i, i < j → Deaf t (old + 1 + i) = (D i).deaf
  rel : ∀ i, i < j → (D i).stage ≤ 6 → ∃ r, RelBy (stA H.L.Wg) t (old + 1 + i) r
  fin : ∀ i, i < j → (D i).stage ≤ 6 → H.Fin i (O i) w
  pay : PayAt H.L.C H.L.n w
  seen : SeenB w.heap.size t
  N : H.L.N ≤ w.heap.size
  ls : Lists H.L j O o0 w.heap.size
  base : ∃ u, t = t0 ++ u ∧ ∀ op ∈ u, op.g = 0 ∨ old < op.g ∨ op.act.touch? = none
  atm : ∀ i a, touchAt t i = some a → a.kind = .atomic → ShP H.L H.X a.loc ∨ Knows t 0 i
  mem : ∀ i a, touchAt t i = some a → a.loc.isMemory = true
  init : ∀ i, j ≤ i → i < H.L.n → w.cell? ⟨H.L.C, i, none⟩ = some H.z

/-- What a worker leaves stands while others step. -/
def FinStays (H : Ph) : Prop := (∀ i o w w₁, RO H.ty H.L (some i) o w w₁ → H.Fin i o w → H.Fin i o w₁) ∧ ∀ i o w d, H.Fin i o w → H.Fin i o (w.at d)

section
variable {H : Ph} {old j : Nat} {t0 : Trace} {gs : Array Goroutine} {w w' : World} {t : Trace} {D : Nat → WD} {O : Nat → List Nat} {o0 o' : List Nat} {d0 : Nat} {q : Nat → Nat}

theorem Cm.at (hF : FinStays H) (h : Cm H old t0 j gs w t D O o0 d0 q) (d : Nat) : Cm H old t0 j gs (w.at d) t D O o0 d0 q :=
  ⟨h.size, fun i hi => let ⟨g, hg, hs⟩ := h.wk i hi; ⟨g, hg, hs.rely (RO.at w d)⟩, h.elder, h.above, h.ct, h.norel, h.deaf0, h.deafW, h.rel, fun i hi hs => hF.2 _ _ _ d (h.fin i hi hs), h.pay, h.seen, h.N, h.ls, h.base, h.atm, h.mem, h.init⟩
end

section
variable {H : Ph} {old j : Nat} {t0 : Trace} {gs : Array Goroutine} {w w' : World} {t : Trace} {D : Nat → WD} {O : Nat → List Nat} {o0 o0' o' : List Nat} {d0 : Nat} {q : Nat → Nat}

/-- A STEP OF WORKER NUMBER i. -/
theorem Cm.stepW (hL : LayOk H.L) (hX : ∀ b, H.X b → b < H.L.N ∧ b ≠ H.L.C) (hF : FinStays H) (h : Cm H old t0 j gs w t D O o0 d0 q) {i : Nat} (hi : i < j) {g g' : Goroutine} {fn : FuncId} {pos : String} {es : Array Event} {s' m' dd' : Nat}
    (hsz : w.heap.size ≤ w'.heap.size) (hls : Lists H.L j (upd O i o') o0 w'.heap.size) (hsub : ∀ b ∈ O i, b ∈ o') (hnew : ∀ b ∈ o', b ∈ O i ∨ w.heap.size ≤ b)
    (hrw : ∀ i', i' < j → i' ≠ i → RO H.ty H.L (some i') (O i') w w') (hs' : H.Wk i o' s' m' dd' g' w')
    (hok : ∀ op ∈ MemOp.ofEvents (old + 1 + i) fn pos es, OkW (ShP H.L H.X) (OwnGo H.L old j (upd O i o')) (RdG H.L H.X old) (old + 1 + i) op)
    (hnr : ∀ e ∈ es, e.loc ≠ .mark (.release (stA H.L.Wg))) (hlow : ∀ e ∈ es, ∀ x, (MemAct.ofEvent e).touch? = some x → x.loc.low w'.heap.size)
    (hat : ∀ e ∈ es, ∀ x, (MemAct.ofEvent e).touch? = some x → x.loc.isMemory = true ∧ (x.kind = .atomic → ShP H.L H.X x.loc))
    (hdeaf : deafBehind (D i).deaf es = dd') (hrel : s' ≤ 6 → ∃ r, RelBy (stA H.L.Wg) (t ++ MemOp.ofEvents (old + 1 + i) fn pos es) (old + 1 + i) r)
    (hfin : s' ≤ 6 → H.Fin i o' w') (hpay : PayAt H.L.C H.L.n w') (hcell : ∀ i', j ≤ i' → w'.cell? ⟨H.L.C, i', none⟩ = w.cell? ⟨H.L.C, i', none⟩) :
    Cm H old t0 j ((gs.map (woken H.P g g' w')).setIfInBounds (old + 1 + i) g') w' (t ++ MemOp.ofEvents (old + 1 + i) fn pos es) (upd D i ⟨s', m', dd'⟩) (upd O i o') o0 d0 q := by
  refine ⟨by simp [h.size], fun i' hi' => ?_, fun x gx hx hxo hgx => ?_, fun x hx => ?_, (ct_grow h.ct h.seen hsub hnew).appW (apartP hL hX hls) (by omega) (by omega) hok, h.norel.app (norel_of hnr), by rw [Deaf_other t (by omega) _ g_of_ofEvents, h.deaf0], fun i' hi' => ?_, fun i' hi' hst => ?_, fun i' hi' hst => ?_, hpay,
    (h.seen.mono hsz).app fun op hop x hx => by obtain ⟨e, he, rfl⟩ := of_mem hop; exact hlow e he x hx, Nat.le_trans h.N hsz, hls, grow_base h.base fun op hop => by obtain ⟨e, he, rfl⟩ := of_mem hop; exact .inr (.inl (by show old < old + 1 + i; omega)),
    grow_atm h.atm fun op hop x hx => by obtain ⟨e, he, rfl⟩ := of_mem hop; exact (hat e he x hx).2, grow_mem h.mem (fun op hop x hx => by obtain ⟨e, he, rfl⟩ := of_mem hop; exact (hat e he x hx).1), fun i' h1 h2 => (hcell i' h1).trans (h.init i' h1 h2)⟩
  · by_cases e : i' = i
    · subst e
      exact ⟨g', get_map_set_same _ _ _ (by rw [h.size]; omega), by rw [upd_same, upd_same]; exact hs'⟩
    · obtain ⟨x, hx, hsx⟩ := h.wk i' hi'
      refine ⟨x, by rw [get_map_set _ _ _ _ (by omega), hx, Option.map_some, hsx.woken], ?_⟩
      rw [upd_ne D _ e, upd_ne O _ e]
      exact hsx.rely (hrw i' hi' e)
  · rw [get_map_set _ _ _ _ (by omega)] at hgx
    obtain ⟨y, hy, rfl⟩ := Option.map_eq_some_iff.1 hgx
    have hq := h.elder x y hx hxo hy
    rw [woken_quitsD hq, Deaf_other t (by omega) _ g_of_ofEvents]
    exact hq
  · rw [Deaf_other t (g' := old + 1 + i) (by simp [h.size] at hx; omega) _ g_of_ofEvents]
    exact h.above x (by simpa using hx)
  · by_cases e : i' = i
    · subst e; rw [Deaf_own, h.deafW i' hi', upd_same]; exact hdeaf
    · rw [Deaf_other t (by omega) _ g_of_ofEvents, h.deafW i' hi', upd_ne D _ e]
  · by_cases e : i' = i
    · subst e; rw [upd_same] at hst; exact hrel hst
    · rw [upd_ne D _ e] at hst
      obtain ⟨r, hr⟩ := h.rel i' hi' hst
      exact ⟨r, hr.appOther g_of_ofEvents (by omega)⟩
  · by_cases e : i' = i
    · subst e; rw [upd_same] at hst; rw [upd_same]; exact hfin hst
    · rw [upd_ne D _ e] at hst
      rw [upd_ne O _ e]
      exact hF.1 _ _ _ _ (hrw i' hi' e) (h.fin i' hi' hst)

/-- A STEP OF THE STARTER's. -/
theorem Cm.step0 (hL : LayOk H.L) (hX : ∀ b, H.X b → b < H.L.N ∧ b ≠ H.L.C) (hF : FinStays H) (h : Cm H old t0 j gs w t D O o0 d0 q) {a a' : Goroutine} {fn : FuncId} {pos : String} {es : Array Event}
    (hsz : w.heap.size ≤ w'.heap.size) (hls : Lists H.L j O o0' w'.heap.size)
    (hrw : ∀ i, i < j → RO H.ty H.L (some i) (O i) w w')
    (hok : ∀ op ∈ MemOp.ofEvents 0 fn pos es, Ok0 (ShP H.L H.X) (OwnGo H.L old j O) (RdG H.L H.X old) (old + j) op)
    (hnr : ∀ e ∈ es, e.loc ≠ .mark (.release (stA H.L.Wg))) (hlow : ∀ e ∈ es, ∀ x, (MemAct.ofEvent e).touch? = some x → x.loc.low w'.heap.size)
    (hat : ∀ e ∈ es, ∀ x, (MemAct.ofEvent e).touch? = some x → x.loc.isMemory = true ∧ (x.kind = .atomic → ShP H.L H.X x.loc)) (hpay : PayAt H.L.C H.L.n w') (hcell : ∀ i', j ≤ i' → w'.cell? ⟨H.L.C, i', none⟩ = w.cell? ⟨H.L.C, i', none⟩) :
    Cm H old t0 j ((gs.map (woken H.P a a' w')).setIfInBounds 0 a') w' (t ++ MemOp.ofEvents 0 fn pos es) D O o0' (deafBehind d0 es) q := by
  refine ⟨by simp [h.size], fun i hi => ?_, fun x gx hx hxo hgx => ?_, fun x hx => ?_, h.ct.app0 (apartP hL hX hls) hok, h.norel.app (norel_of hnr), by rw [Deaf_own, h.deaf0], fun i hi => by rw [Deaf_other t (by omega) _ g_of_ofEvents, h.deafW i hi], fun i hi hst => ?_, fun i hi hst => hF.1 _ _ _ _ (hrw i hi) (h.fin i hi hst), hpay,
    (h.seen.mono hsz).app fun op hop x hx => by obtain ⟨e, he, rfl⟩ := of_mem hop; exact hlow e he x hx, Nat.le_trans h.N hsz, hls, grow_base h.base fun op hop => by obtain ⟨e, he, rfl⟩ := of_mem hop; exact .inl rfl,
    grow_atm h.atm fun op hop x hx => by obtain ⟨e, he, rfl⟩ := of_mem hop; exact (hat e he x hx).2, grow_mem h.mem (fun op hop x hx => by obtain ⟨e, he, rfl⟩ := of_mem hop; exact (hat e he x hx).1), fun i' h1 h2 => (hcell i' h1).trans (h.init i' h1 h2)⟩
  · obtain ⟨x, hx, hsx⟩ := h.wk i hi
    exact ⟨x, by rw [get_map_set _ _ _ _ (by omega), hx, Option.map_some, hsx.woken], hsx.rely (hrw i hi)⟩
  · rw [get_map_set _ _ _ _ (by omega)] at hgx
    obtain ⟨y, hy, rfl⟩ := Option.map_eq_some_iff.1 hgx
    have hq := h.elder x y hx hxo hy
    rw [woken_quitsD hq, Deaf_other t (by omega) _ g_of_ofEvents]
    exact hq
  · rw [Deaf_other t (g' := 0) (by simp [h.size] at hx; omega) _ g_of_ofEvents]
    exact h.above x (by simpa using hx)
  · obtain ⟨r, hr⟩ := h.rel i hi hst
    exact ⟨r, hr.appOther g_of_ofEvents (by omega)⟩

/-- AN ELDER GOROUTINE's SLIP. -/
theorem Cm.slip (hL : LayOk H.L) (hX : ∀ b, H.X b → b < H.L.N ∧ b ≠ H.L.C) (hF : FinStays H) (h : Cm H old t0 j gs w t D O o0 d0 q) {x k : Nat} (hx0 : 0 < x) (hxo : x ≤ old) {g g' : Goroutine} {fn : FuncId} {pos : String} {es : Array Event}
    (hm : ∀ e ∈ es, Event.mute e = true) (hq' : QuitsD H.P k (deafBehind (Deaf t x) es) g') :
    Cm H old t0 j ((gs.map (woken H.P g g' w)).setIfInBounds x g') w (t ++ MemOp.ofEvents x fn pos es) D O o0 d0 (upd q x k) := by
  have hno : ∀ op ∈ MemOp.ofEvents x fn pos es, op.act.touch? = none := fun op hop => by obtain ⟨e, he, rfl⟩ := of_mem hop; exact touch_mute (hm e he)
  refine ⟨by simp [h.size], fun i hi => ?_, fun y gy hy hyo hgy => ?_, fun y hy => ?_, h.ct.appW (apartP hL hX h.ls) (k := x) (by omega) (by omega) (fun op hop => ⟨by obtain ⟨e, he, rfl⟩ := of_mem hop; rfl, fun z hz => (by rw [hno op hop] at hz; cases hz)⟩),
    h.norel.app (norel_of fun e he hl => ?_), by rw [Deaf_other t (by omega) _ g_of_ofEvents, h.deaf0], fun i hi => by rw [Deaf_other t (by omega) _ g_of_ofEvents, h.deafW i hi], fun i hi hst => ?_, h.fin, h.pay,
    h.seen.app (fun op hop z hz => (by rw [hno op hop] at hz; cases hz)), h.N, h.ls, grow_base h.base fun op hop => .inr (.inr (hno op hop)),
    grow_atm h.atm fun op hop z hz => (by rw [hno op hop] at hz; cases hz), grow_mem h.mem (fun op hop z hz => (by rw [hno op hop] at hz; cases hz)), h.init⟩
  · obtain ⟨z, hz, hsz⟩ := h.wk i hi
    exact ⟨z, by rw [get_map_set _ _ _ _ (by omega), hz, Option.map_some, hsz.woken], hsz⟩
  · by_cases e : y = x
    · subst e
      rw [get_map_set_same _ _ _ (by rw [h.size]; omega)] at hgy
      obtain rfl := Option.some.inj hgy
      rw [upd_same, Deaf_own]
      exact hq'
    · rw [get_map_set _ _ _ _ (Ne.symm e)] at hgy
      obtain ⟨z, hz, rfl⟩ := Option.map_eq_some_iff.1 hgy
      have hq := h.elder y z hy hyo hz
      rw [woken_quitsD hq, upd_ne q _ e, Deaf_other t (Ne.symm e) _ g_of_ofEvents]
      exact hq
  · rw [Deaf_other t (g' := x) (by simp [h.size] at hy; omega) _ g_of_ofEvents]
    exact h.above y (by simpa using hy)
  · have := hm e he
    obtain ⟨loc, wr, sy⟩ := e
    simp only at hl
    subst hl
    simp [Event.mute] at this
  · obtain ⟨r, hr⟩ := h.rel i hi hst
    exact ⟨r, hr.appOther g_of_ofEvents (by omega)⟩

/-- THE go STATEMENT: the starter's list goes to the child. -/
theorem Cm.spawn (hL : LayOk H.L) (hX : ∀ b, H.X b → b < H.L.N ∧ b ≠ H.L.C) (hF : FinStays H) (h : Cm H old t0 j gs w t D O o0 0 q) {a' child : Goroutine} {x y : MemOp} {m : Nat} (hx : x.g = 0 ∧ x.act = .go (old + 1 + j)) (hy : y.g = old + 1 + j ∧ y.act = .start)
    (hc : GoesO H.P false H.ty H.L H.X (some j) (H.AtR j) m o0 child w) :
    Cm H old t0 (j + 1) ((gs.setIfInBounds 0 a').push child) w (t ++ #[x, y]) (upd D j ⟨7, m, 0⟩) (upd O j o0) [] 0 q := by
  have hm : ∀ op ∈ #[x, y], op = x ∨ op = y := by intro op hop; simpa using hop
  have hst : ∀ op ∈ #[x, y], op.act ≠ .mark .disable ∧ op.act ≠ .mark .enable := by
    intro op hop
    rcases hm op hop with rfl | rfl
    · rw [hx.2]; exact ⟨by simp, by simp⟩
    · rw [hy.2]; exact ⟨by simp, by simp⟩
  have hnt : ∀ op ∈ #[x, y], op.act.touch? = none := by
    intro op hop
    rcases hm op hop with rfl | rfl
    · rw [hx.2]; rfl
    · rw [hy.2]; rfl
  have hls : Lists H.L (j + 1) (upd O j o0) [] w.heap.size := by
    refine ⟨fun i hi b hb => ?_, by simp, fun i i' hi hi' hne b hb hb' => ?_, by simp⟩
    · by_cases e : i = j
      · subst e; rw [upd_same] at hb; exact h.ls.lo0 b hb
      · rw [upd_ne O _ e] at hb; exact h.ls.lo i (by omega) b hb
    · by_cases e : i = j
      · subst e
        rw [upd_same] at hb
        rw [upd_ne O _ (Ne.symm hne)] at hb'
        exact h.ls.dj0 i' (by omega) b hb' hb
      · rw [upd_ne O _ e] at hb
        by_cases e' : i' = j
        · subst e'
          rw [upd_same] at hb'
          exact h.ls.dj0 i (by omega) b hb hb'
        · rw [upd_ne O _ e'] at hb'
          exact h.ls.dj i i' (by omega) (by omega) hne b hb hb'
  have hct : CT (ShP H.L H.X) (OwnGo H.L old (j + 1) (upd O j o0)) (RdG H.L H.X old) t (old + j) := by
    refine CT.own h.ct (fun g _ _ l hl => ?_) fun g g1 g2 l hl => .inl ?_
    · obtain ⟨i, hi, e, a, ea, ha⟩ := hl
      exact ⟨i, by omega, e, a, ea, by rw [upd_ne O _ (by omega)]; exact ha⟩
    · obtain ⟨i, hi, e, a, ea, ha⟩ := hl
      have hij : i ≠ j := by omega
      rw [upd_ne O _ hij] at ha
      exact ⟨i, by omega, e, a, ea, ha⟩
  have hct' := hct.fork (apartP hL hX hls) (x := x) (y := y) (by rw [show old + j + 1 = old + 1 + j by omega]; exact hx) (by rw [show old + j + 1 = old + 1 + j by omega]; exact hy) h.deaf0
  refine ⟨by simp [h.size]; omega, fun i hi => ?_, fun z gz hz hzo hgz => ?_, fun z hz => ?_, by rw [show old + (j + 1) = old + j + 1 by omega]; exact hct', h.norel.app fun op hop => ?_, by rw [Deaf_still t 0 _ hst, h.deaf0], fun i hi => ?_, fun i hi hs => ?_, fun i hi hs => ?_, h.pay,
    h.seen.app fun op hop z hz => (by rw [hnt op hop] at hz; cases hz), h.N, hls, grow_base h.base fun op hop => .inr (.inr (hnt op hop)), grow_atm h.atm fun op hop z hz => (by rw [hnt op hop] at hz; cases hz), grow_mem h.mem (fun op hop z hz => (by rw [hnt op hop] at hz; cases hz)), fun i h1 h2 => h.init i (by omega) h2⟩
  · rcases Nat.lt_or_ge i j with hlt | hge
    · obtain ⟨g, hg, hsg⟩ := h.wk i hlt
      refine ⟨g, ?_, by rw [upd_ne D _ (by omega), upd_ne O _ (by omega)]; exact hsg⟩
      rw [Array.getElem?_push_lt (by simp [h.size]; omega), ← Array.getElem?_eq_getElem, Array.getElem?_setIfInBounds_ne (by omega)]
      exact hg
    · obtain rfl : i = j := by omega
      refine ⟨child, ?_, by rw [upd_same, upd_same]; exact .r0 hc⟩
      rw [show old + 1 + i = (gs.setIfInBounds 0 a').size by simp [h.size], Array.getElem?_push_size]
  · rw [Array.getElem?_push_lt (by simp [h.size]; omega), ← Array.getElem?_eq_getElem, Array.getElem?_setIfInBounds_ne (by omega)] at hgz
    rw [Deaf_still t _ _ hst]
    exact h.elder z gz hz hzo hgz
  · rw [Deaf_still t _ _ hst]
    exact h.above z (by simp at hz; omega)
  · rcases hm op hop with rfl | rfl
    · rw [hx.2]; simp
    · rw [hy.2]; simp
  · rw [Deaf_still t _ _ hst]
    rcases Nat.lt_or_ge i j with hlt | hge
    · rw [h.deafW i hlt, upd_ne D _ (by omega)]
    · obtain rfl : i = j := by omega
      rw [upd_same]
      exact h.above _ (by rw [h.size]; exact Nat.le_refl _)
  · rcases Nat.lt_or_ge i j with hlt | hge
    · rw [upd_ne D _ (by omega)] at hs
      obtain ⟨r, hr⟩ := h.rel i hlt hs
      refine ⟨r, hr.appNot fun op hop => ?_⟩
      rcases hm op hop with rfl | rfl
      · rw [hx.1]; omega
      · rw [hy.1]; omega
    · obtain rfl : i = j := by omega
      rw [upd_same] at hs
      simp at hs
  · rcases Nat.lt_or_ge i j with hlt | hge
    · rw [upd_ne D _ (by omega)] at hs
      rw [upd_ne O _ (by omega)]
      exact h.fin i hlt hs
    · obtain rfl : i = j := by omega
      rw [upd_same] at hs
      simp at hs
end
end

section
open Go.Conc Go.ConcN
open Go.ConcR (KK wgBlock WgAt stA smA rd wr Payload DC0 Bk g_of_ofEvents)

/-- The starter has said 'acquire', hearing, behind every worker's release. -/
def AcqO (Wg old j : Nat) (t : Trace) : Prop :=
  ∃ x, t.act? x = some (.mark (.acquire (stA Wg))) ∧ t.g? x = some 0 ∧ t.heard x ∧ ∀ i, i < j → ∃ r, RelBy (stA Wg) t (old + 1 + i) r ∧ r < x
theorem AcqO.app {Wg old j : Nat} {t u : Trace} (h : AcqO Wg old j t) (hu : ∀ i r, i < j → RelBy (stA Wg) t (old + 1 + i) r → RelBy (stA Wg) (t ++ u) (old + 1 + i) r) : AcqO Wg old j (t ++ u) := by
  obtain ⟨x, h1, h2, h3, h4⟩ := h
  have hx := lt_of_act? h1
  exact ⟨x, by rw [act?_old hx]; exact h1, by rw [g?_old hx]; exact h2, (heard_old hx).2 h3, fun i hi => let ⟨r, hr, hrx⟩ := h4 i hi; ⟨r, hu i r hi hr, hrx⟩⟩

variable [Payload]

/-- What is held of a phase throughout. -/
structure PhOk (H : Ph) (AW : List Nat → Goroutine → World → Prop) : Prop where
  hL : LayOk H.L
  hX : ∀ b, H.X b → b < H.L.N ∧ b ≠ H.L.C
  hF : FinStays H
  hn : H.L.n < 2147483648
  hAr : ∀ o g w, AW o g w → g.status = .running
  hAn : ∀ o g w, AW o g w → ∃ m, H.GP (H.AtW1 AW) m o g w
  hAnc : ∀ g w d, H.Anc g w → H.Anc g (w.at d)

def InvP (H : Ph) (AW : List Nat → Goroutine → World → Prop) (old : Nat) (t0 : Trace) (μ : Nat × Nat) (m : Machine) (t : Trace) : Prop :=
  ∃ (gs : Array Goroutine) (w : World) (sl : Option (Nat × Nat)) (j : Nat) (D : Nat → WD) (O : Nat → List Nat) (o0 : List Nat) (q : Nat → Nat) (tag : CTag) (f0 d0 : Nat) (a : Goroutine) (st sm : Int),
    m = crowd gs w sl ∧ gs[0]? = some a ∧ H.Cs AW tag j f0 d0 o0 a w ∧ Cm H old t0 j gs w t D O o0 d0 q ∧ WgAt H.ty H.L.Wg w st sm ∧ ConcN.Mode j D tag st sm ∧
    (tag = .ret → AcqO H.L.Wg old j t) ∧ μ = (phi H.L.n (Vc j D) tag + Ssum j D, f0 + 2 * Fsum j D + 2 * sumTo (old + 1) q)

section
variable {H : Ph} {AW : List Nat → Goroutine → World → Prop} {old j : Nat} {t0 : Trace} {gs : Array Goroutine} {w w' : World} {sl : Option (Nat × Nat)} {t : Trace} {D : Nat → WD} {O : Nat → List Nat} {o0 o0' o' : List Nat} {q : Nat → Nat}
  {tag : CTag} {f0 d0 : Nat} {a : Goroutine} {st sm : Int}

/-- WHATEVER STEP OF WORKER NUMBER i. -/
theorem workerM (K : PhOk H AW) (ha : gs[0]? = some a) (hcs : H.Cs AW tag j f0 d0 o0 a w) (hcm : Cm H old t0 j gs w t D O o0 d0 q)
    {i : Nat} (hi : i < j) {g g' : Goroutine} {es : Array Event} {s' m' dd' : Nat} {st' sm' : Int} (hg : gs[old + 1 + i]? = some g) (hgo : stepG H.P false g w = .go g' w' es)
    (h0 : RO H.ty H.L none o0 w w') (hls : Lists H.L j (upd O i o') o0 w'.heap.size) (hsub : ∀ b ∈ O i, b ∈ o') (hnew : ∀ b ∈ o', b ∈ O i ∨ w.heap.size ≤ b)
    (hrw : ∀ i', i' < j → i' ≠ i → RO H.ty H.L (some i') (O i') w w') (hs' : H.Wk i o' s' m' dd' g' w')
    (hok : ∀ op ∈ MemOp.ofEvents (old + 1 + i) g.frame.fn g.frame.place es, OkW (ShP H.L H.X) (OwnGo H.L old j (upd O i o')) (RdG H.L H.X old) (old + 1 + i) op)
    (hnr : ∀ e ∈ es, e.loc ≠ .mark (.release (stA H.L.Wg))) (hlow : ∀ e ∈ es, ∀ x, (MemAct.ofEvent e).touch? = some x → x.loc.low w'.heap.size)
    (hat : ∀ e ∈ es, ∀ x, (MemAct.ofEvent e).touch? = some x → x.loc.isMemory = true ∧ (x.kind = .atomic → ShP H.L H.X x.loc))
    (hdeaf : deafBehind (D i).deaf es = dd') (hrel : s' ≤ 6 → ∃ r, RelBy (stA H.L.Wg) (t ++ MemOp.ofEvents (old + 1 + i) g.frame.fn g.frame.place es) (old + 1 + i) r)
    (hfin : s' ≤ 6 → H.Fin i o' w') (hpay : PayAt H.L.C H.L.n w') (hcell : ∀ i', j ≤ i' → w'.cell? ⟨H.L.C, i', none⟩ = w.cell? ⟨H.L.C, i', none⟩) (hwg : WgAt H.ty H.L.Wg w' st' sm')
    (hmode : ∀ tag', (tag' = tag ∨ (tag = .blk ∧ tag' = .w3)) → (mayWake H.P g = true → g'.status = .running → tag' ≠ .blk) → ConcN.Mode j (upd D i ⟨s', m', dd'⟩) tag' st' sm')
    (hacq : tag = .ret → AcqO H.L.Wg old j (t ++ MemOp.ofEvents (old + 1 + i) g.frame.fn g.frame.place es))
    (hlt : (s' < (D i).stage ∧ cnt ⟨s', m', dd'⟩ ≤ cnt (D i)) ∨ (s' = (D i).stage ∧ m' + 1 = (D i).fuel)) :
    ∃ m₁ ops μ', runT H.P (crowd gs w sl) (old + 1 + i) = (.next m₁, ops) ∧ Lt2 μ' (phi H.L.n (Vc j D) tag + Ssum j D, f0 + 2 * Fsum j D + 2 * sumTo (old + 1) q) ∧ InvP H AW old t0 μ' m₁ (t ++ ops) := by
  obtain ⟨tag', f', hcs', hf', htag, hwk⟩ := hcs.wokenBy K.hAr h0 g g'
  have hne : ((old + 1 + i) == 0) = false := by simp
  have hrun := runT_crowd_go (P := H.P) (sl := sl) (i := old + 1 + i) hg (by rw [hne]; exact hgo)
  have e1 := sumTo_upd D (⟨s', m', dd'⟩ : WD) cnt hi
  have e2 := sumTo_upd D (⟨s', m', dd'⟩ : WD) WD.stage hi
  have e3 := sumTo_upd D (⟨s', m', dd'⟩ : WD) WD.fuel hi
  refine ⟨_, _, (phi H.L.n (Vc j (upd D i ⟨s', m', dd'⟩)) tag' + Ssum j (upd D i ⟨s', m', dd'⟩), f' + 2 * Fsum j (upd D i ⟨s', m', dd'⟩) + 2 * sumTo (old + 1) q), hrun, ?_,
    _, w', sl, j, upd D i ⟨s', m', dd'⟩, upd O i o', o0, q, tag', f', d0, woken H.P g g' w' a, st', sm', rfl, by rw [get_map_set _ _ _ _ (by omega), ha]; rfl, hcs',
    hcm.stepW K.hL K.hX K.hF hi h0.size hls hsub hnew hrw hs' hok hnr hlow hat hdeaf hrel hfin hpay hcell, hwg, hmode tag' htag hwk, ?_, rfl⟩
  · rw [phi_retag _ _ htag]
    simp only [Vc, Ssum, Fsum] at *
    rcases hlt with ⟨h1, h2⟩ | ⟨h1, h2⟩
    · refine Prod.Lex.left _ _ ?_
      have := phi_mono H.L.n (v' := sumTo j fun a => cnt (upd D i ⟨s', m', dd'⟩ a)) (v := sumTo j fun a => cnt (D a)) (by omega) tag
      omega
    · have ec : cnt (⟨s', m', dd'⟩ : WD) = cnt (D i) := by simp only [cnt, h1]
      have ev : (sumTo j fun a => cnt (upd D i ⟨s', m', dd'⟩ a)) = sumTo j fun a => cnt (D a) := by omega
      have es' : (sumTo j fun a => (upd D i ⟨s', m', dd'⟩ a).stage) = sumTo j fun a => (D a).stage := by omega
      rw [ev, es']
      refine Prod.Lex.right _ ?_
      omega
  · intro e
    rcases htag with rfl | ⟨_, rfl⟩
    · exact hacq e
    · cases e

/-- WHATEVER STEP OF THE STARTER's BUT A go STATEMENT. -/
theorem callerM (K : PhOk H AW) (ha : gs[0]? = some a) (hcm : Cm H old t0 j gs w t D O o0 d0 q)
    {a' : Goroutine} {es : Array Event} {tag' : CTag} {f' : Nat} {st' sm' : Int} (hgo : stepG H.P true a w = .go a' w' es)
    (hsz : w.heap.size ≤ w'.heap.size) (hls : Lists H.L j O o0' w'.heap.size) (hrw : ∀ i, i < j → RO H.ty H.L (some i) (O i) w w')
    (hok : ∀ op ∈ MemOp.ofEvents 0 a.frame.fn a.frame.place es, Ok0 (ShP H.L H.X) (OwnGo H.L old j O) (RdG H.L H.X old) (old + j) op) (hnr : ∀ e ∈ es, e.loc ≠ .mark (.release (stA H.L.Wg)))
    (hlow : ∀ e ∈ es, ∀ x, (MemAct.ofEvent e).touch? = some x → x.loc.low w'.heap.size) (hat : ∀ e ∈ es, ∀ x, (MemAct.ofEvent e).touch? = some x → x.loc.isMemory = true ∧ (x.kind = .atomic → ShP H.L H.X x.loc)) (hpay : PayAt H.L.C H.L.n w') (hcell : ∀ i', j ≤ i' → w'.cell? ⟨H.L.C, i', none⟩ = w.cell? ⟨H.L.C, i', none⟩)
    (hcs' : H.Cs AW tag' j f' (deafBehind d0 es) o0' a' w') (hwg : WgAt H.ty H.L.Wg w' st' sm') (hmode : ConcN.Mode j D tag' st' sm')
    (hacq : tag' = .ret → AcqO H.L.Wg old j (t ++ MemOp.ofEvents 0 a.frame.fn a.frame.place es))
    (hlt : phi H.L.n (Vc j D) tag' < phi H.L.n (Vc j D) tag ∨ (phi H.L.n (Vc j D) tag' = phi H.L.n (Vc j D) tag ∧ f' < f0)) :
    ∃ m₁ ops μ', runT H.P (crowd gs w sl) 0 = (.next m₁, ops) ∧ Lt2 μ' (phi H.L.n (Vc j D) tag + Ssum j D, f0 + 2 * Fsum j D + 2 * sumTo (old + 1) q) ∧ InvP H AW old t0 μ' m₁ (t ++ ops) := by
  have hrun := runT_crowd_go (P := H.P) (sl := sl) (i := 0) ha (by simpa using hgo)
  refine ⟨_, _, (phi H.L.n (Vc j D) tag' + Ssum j D, f' + 2 * Fsum j D + 2 * sumTo (old + 1) q), hrun, ?_,
    _, w', sl, j, D, O, o0', q, tag', f', deafBehind d0 es, a', st', sm', rfl, get_map_set_same _ _ _ (by rw [hcm.size]; omega), hcs', hcm.step0 K.hL K.hX K.hF hsz hls hrw hok hnr hlow hat hpay hcell, hwg, hmode, hacq, rfl⟩
  rcases hlt with h | ⟨h1, h2⟩
  · exact Prod.Lex.left _ _ (by omega)
  · rw [h1]; exact Prod.Lex.right _ (by omega)

/-- AN ELDER GOROUTINE's SLIP. -/
theorem elderM (K : PhOk H AW) (ha : gs[0]? = some a) (hcs : H.Cs AW tag j f0 d0 o0 a w) (hcm : Cm H old t0 j gs w t D O o0 d0 q) (hwg : WgAt H.ty H.L.Wg w st sm) (hmode : ConcN.Mode j D tag st sm) (hacq : tag = .ret → AcqO H.L.Wg old j t)
    {x : Nat} (hx0 : 0 < x) (hxo : x ≤ old) {g : Goroutine} (hg : gs[x]? = some g) (hrun : g.status = .running) :
    ∃ m₁ ops μ', runT H.P (crowd gs w sl) x = (.next m₁, ops) ∧ Lt2 μ' (phi H.L.n (Vc j D) tag + Ssum j D, f0 + 2 * Fsum j D + 2 * sumTo (old + 1) q) ∧ InvP H AW old t0 μ' m₁ (t ++ ops) := by
  have hq := hcm.elder x g hx0 hxo hg
  cases hqi : q x with
  | zero => rw [hqi] at hq; rw [hq.1] at hrun; cases hrun
  | succ k =>
    rw [hqi] at hq
    rcases hq with ⟨hf, _⟩ | ⟨_, g', es, hm, hstp, hq'⟩
    · rw [hf] at hrun; cases hrun
    obtain ⟨tag', f', hcs', hf', htag, hwk⟩ := hcs.wokenBy K.hAr (RO.refl w) g g'
    have hne : (x == 0) = false := by simp; omega
    have hrunT := runT_crowd_go (P := H.P) (sl := sl) (i := x) hg (by rw [hne]; exact hstp w)
    have hsum : sumTo (old + 1) (upd q x k) + (k + 1) = sumTo (old + 1) q + k := by
      have := sumTo_upd q k id (show x < old + 1 by omega)
      simpa [hqi] using this
    refine ⟨_, _, (phi H.L.n (Vc j D) tag' + Ssum j D, f' + 2 * Fsum j D + 2 * sumTo (old + 1) (upd q x k)), hrunT, ?_,
      _, w, sl, j, D, O, o0, upd q x k, tag', f', d0, woken H.P g g' w a, st, sm, rfl, by rw [get_map_set _ _ _ _ (by omega), ha]; rfl, hcs', hcm.slip K.hL K.hX K.hF hx0 hxo hm hq', hwg, hmode.retag htag, ?_, rfl⟩
    · rw [phi_retag _ _ htag]
      exact Prod.Lex.right _ (by omega)
    · intro e
      rcases htag with rfl | ⟨_, rfl⟩
      · exact (hacq e).app fun i r _ hr => hr.appOther g_of_ofEvents (by omega)
      · cases e
end
end
end Go.Proofs.Ytnifgfnhcjhodaa
