/- XPR: several texts in one. Conditions: each lemma's own. -/
import Derived.StepT
import GoSem.Claim






namespace Go.Proofs.YtnifgfnhcjhodaaDoor
set_option linter.unusedVariables false
set_option linter.unusedSimpArgs false
section

/-- u is w with the blocks of X emptied. -/
structure Pz (X : Nat → Prop) (u w : World) : Prop where
  size : w.heap.size = u.heap.size
  os : w.os = u.os
  out : w.output = u.output
  same : ∀ b, ¬ X b → w.heap[b]? = u.heap[b]?
  bad : ∀ b, X b → ∃ c t, w.heap[b]? = some (.cells c t) ∧ u.heap[b]? = some (.cells #[] t)

/-- What a fit step may list. -/
def GoodE (X : Nat → Prop) (n : Nat) (e : Event) : Prop :=
  (∃ a, e.loc = .cell a ∧ ¬ X a.block ∧ a.block < n ∧ e.sync = false) ∨ (∃ r, e.loc = .obj r ∧ r < n) ∨ e.loc = .mark .noRoom ∨ ∃ f, e.loc = .mark (.extern f)

theorem GoodE.mono {X : Nat → Prop} {n m : Nat} {e : Event} (h : GoodE X n e) (hm : n ≤ m) : GoodE X m e := by
  rcases h with ⟨a, h1, h2, h3⟩ | ⟨r, h1, h2⟩ | h | h
  · exact .inl ⟨a, h1, h2, Nat.lt_of_lt_of_le h3.1 hm, h3.2⟩
  · exact .inr (.inl ⟨r, h1, Nat.lt_of_lt_of_le h2 hm⟩)
  · exact .inr (.inr (.inl h))
  · exact .inr (.inr (.inr h))

/-- The ends of a fit step that are no value: a panic, or an end of the run. -/
def Mild : Halt → Prop
  | .panic _ | .stuck _ | .unsupported _ => True
  | _ => False
def Mld (P : Program) {α : Type} (s : Sem α) : Prop := ∀ (u : World) (h : Halt) (u' : World), s.run P u = .halt h u' → Mild h
/-- It never comes to a value. -/
def Nok (P : Program) {α : Type} (s : Sem α) : Prop := ∀ (u : World), ∃ h u', s.run P u = .halt h u' ∧ Mild h
theorem Nok.no {P : Program} {α : Type} {s : Sem α} (h : Nok P s) (u : World) (a : α) (u' : World) : s.run P u ≠ .ok a u' := fun e => by
  obtain ⟨x, y, hx, _⟩ := h u
  rw [hx] at e; cases e

inductive Fit (P : Program) : {α : Type} → Sem α → Prop where
  | pure {α : Type} (a : α) : Fit P (Sem.pure a)
  | load {α : Type} (m : Mode) (a : Addr) {k : Value → Sem α} : m ≠ .atomic → (∀ v, Fit P (k v)) → Fit P (Sem.load m a k)
  | store {α : Type} (m : Mode) (a : Addr) (v : Value) {k : Sem α} : m ≠ .atomic → Fit P k → Fit P (Sem.store m a v k)
  | new {α : Type} (o : Obj) {k : Nat → Sem α} : (∀ r, Fit P (k r)) → Fit P (Sem.new o k)
  | shape {α : Type} (r : Nat) {k : Option (TypeId × Nat) → Sem α} : (∀ s, Fit P (k s)) → (∀ t n, k (some (t, 0)) = k (some (t, n)) ∨ Nok P (k (some (t, 0)))) → Fit P (Sem.shape r k)
  | frozen {α : Type} (a : Addr) {k : Bool → Sem α} : (∀ b, Fit P (k b)) → Fit P (Sem.frozen a k)
  | getObj {α : Type} (r : Nat) {k : Obj → Sem α} : (∀ o, Fit P (k o)) → Fit P (Sem.getObj r k)
  | choose {α : Type} (q : Question) {k : Nat → Sem α} : (∀ n, Fit P (k n)) → Fit P (Sem.choose q k)
  | program {α : Type} {k : Program → Sem α} : Fit P (k P) → Fit P (Sem.program k)
  | mark {α : Type} (m : Mark) {k : Sem α} : (m = .noRoom ∨ ∃ f, m = .extern f) → Fit P k → Fit P (Sem.mark m k)
  | halt {α : Type} {h : Halt} : Mild h → Fit P (Sem.halt h : Sem α)
  | nok {α : Type} {s : Sem α} : Nok P s → Fit P s

theorem Nok.halt {P : Program} {α : Type} {h : Halt} (m : Mild h) : Nok P (Sem.halt h : Sem α) := fun u => ⟨h, u, rfl, m⟩

theorem run_bind {α β : Type} (P : Program) (s : Sem α) (f : α → Sem β) (u : World) :
    (s.bind f).run P u = match s.run P u with | .ok a u' => (f a).run P u' | .halt h u' => .halt h u' := by
  induction s generalizing u with
  | pure a => rfl
  | load m a k ih =>
    simp only [Sem.bind, Sem.run]
    split
    · exact ih _ _
    · split
      · exact ih _ _
      · rfl
  | store m a v k ih =>
    cases v with
    | agg c => simp only [Sem.bind, Sem.run]
    | tuple c => simp only [Sem.bind, Sem.run]
    | _ =>
      simp only [Sem.bind, Sem.run]
      split
      · split
        · rfl
        · exact ih _
      · split
        · exact ih _
        · rfl
  | new o k ih => exact ih _ _
  | shape r k ih => exact ih _ _
  | freeze a n k ih => exact ih _
  | frozen a k ih => exact ih _ _
  | getObj r k ih =>
    simp only [Sem.bind, Sem.run]
    split
    · rfl
    · exact ih _ _
    · rfl
  | setObj r o k ih =>
    simp only [Sem.bind, Sem.run]
    split
    · rfl
    · exact ih _
    · rfl
  | choose q k ih =>
    simp only [Sem.bind, Sem.run]
    split
    · exact ih _ _
    · exact ih _ _
  | sys c k ih => exact ih _ _
  | program k ih => exact ih _ _
  | mark m k ih => exact ih _
  | halt h => rfl

theorem Nok.bind1 {P : Program} {α β : Type} {s : Sem α} (h : Nok P s) (f : α → Sem β) : Nok P (s.bind f) := fun u => by
  obtain ⟨x, y, hx, hm⟩ := h u
  exact ⟨x, y, by rw [run_bind, hx], hm⟩

theorem Nok.bind2 {P : Program} {α β : Type} {s : Sem α} {f : α → Sem β} (hs : Mld P s) (h : ∀ a, Nok P (f a)) : Nok P (s.bind f) := fun u => by
  cases hr : s.run P u with
  | ok x v =>
    obtain ⟨y, z, hy, hm⟩ := h x v
    exact ⟨y, z, by rw [run_bind, hr]; exact hy, hm⟩
  | halt x v => exact ⟨x, v, by rw [run_bind, hr], hs u x v hr⟩

theorem Mld.bind {P : Program} {α β : Type} {s : Sem α} {f : α → Sem β} (hs : Mld P s) (h : ∀ a, Mld P (f a)) : Mld P (s.bind f) := fun u x u' e => by
  rw [run_bind] at e
  cases hr : s.run P u with
  | ok y v => rw [hr] at e; exact h y v x u' e
  | halt y v => rw [hr] at e; cases e; exact hs u _ _ hr

theorem farLoad_mild {P : Program} {u : World} {a : Addr} {b : Bool} {h : Halt} (e : u.farLoad P a b = .error h) : Mild h := by
  unfold World.farLoad at e
  split at e
  · split at e
    · cases e
    · cases e; trivial
  · cases e
    unfold World.noCell
    split <;> trivial
theorem farStore_mild {P : Program} {u : World} {a : Addr} {v : Value} {b : Bool} {h : Halt} (e : u.farStore P a v b = .error h) : Mild h := by
  unfold World.farStore at e
  split at e
  · split at e
    · cases e
    · cases e; trivial
  · cases e
    unfold World.noCell
    split <;> trivial

theorem Fit.mild {P : Program} {α : Type} {s : Sem α} (h : Fit P s) : Mld P s := by
  induction h with
  | pure a => intro u h u' e; cases e
  | load m a _ _ ih =>
    intro u h u' e
    simp only [Sem.run] at e
    split at e
    · exact ih _ _ _ _ e
    · split at e
      · exact ih _ _ _ _ e
      · rename_i hf; cases e; exact farLoad_mild hf
  | store m a v _ _ ih =>
    intro u h u' e
    cases v with
    | agg c => simp only [Sem.run] at e; cases e; trivial
    | tuple c => simp only [Sem.run] at e; cases e; trivial
    | _ =>
      simp only [Sem.run] at e
      split at e
      · split at e
        · cases e; trivial
        · exact ih _ _ _ e
      · split at e
        · exact ih _ _ _ e
        · rename_i hf; cases e; exact farStore_mild hf
  | new o _ ih => intro u h u' e; exact ih _ _ _ _ e
  | shape r _ _ ih => intro u h u' e; exact ih _ _ _ _ e
  | frozen a _ ih => intro u h u' e; exact ih _ _ _ _ e
  | getObj r _ ih =>
    intro u h u' e
    simp only [Sem.run] at e
    split at e
    · cases e; trivial
    · exact ih _ _ _ _ e
    · cases e; trivial
  | choose q _ ih =>
    intro u h u' e
    simp only [Sem.run] at e
    split at e
    · exact ih _ _ _ _ e
    · exact ih _ _ _ _ e
  | program _ ih => intro u h u' e; exact ih _ _ _ e
  | mark m _ _ ih => intro u h u' e; exact ih _ _ _ e
  | halt hm => intro u h u' e; cases e; exact hm
  | nok hn =>
    intro u h u' e
    obtain ⟨x, y, hx, hm⟩ := hn u
    rw [hx] at e; cases e; exact hm

theorem Fit.bind {P : Program} {α β : Type} {s : Sem α} {f : α → Sem β} (h : Fit P s) (hf : ∀ a, Fit P (f a)) : Fit P (s.bind f) := by
  induction h with
  | pure a => exact hf a
  | load m a hm _ ih => exact .load m a hm fun v => ih v
  | store m a v hm _ ih => exact .store m a v hm ih
  | new o _ ih => exact .new o fun r => ih r
  | shape r _ he ih => exact .shape r (fun s => ih s) fun t n => (he t n).imp (fun e => congrArg (Sem.bind · f) e) (fun e => e.bind1 f)
  | frozen a _ ih => exact .frozen a fun r => ih r
  | getObj a _ ih => exact .getObj a fun r => ih r
  | choose q _ ih => exact .choose q fun r => ih r
  | program _ ih => exact .program ih
  | mark m hm _ ih => exact .mark m hm ih
  | halt h => exact .halt h
  | nok h => exact .nok (h.bind1 f)

/-! ### views -/
theorem seenCells_empty {P : Program} {e : TypeId} {f x stop : Nat} {l : List (Nat × Nat × List UInt8)} (h : seenCells P #[] e f x stop = .ok l) : l = [] ∧ ∀ c, seenCells P c e f x stop = .ok [] := by
  cases f with
  | zero => simp [seenCells] at h
  | succ f =>
    unfold seenCells at h
    by_cases hx : x ≥ stop
    · simp only [hx, if_true] at h
      cases h
      exact ⟨rfl, fun c => by unfold seenCells; simp only [hx, if_true]⟩
    · simp only [hx, if_false] at h
      split at h
      · cases h
      · split at h
        · cases h
        · simp at h

theorem seen_eq {P : Program} {u w : World} {at_ : Addr} {t : TypeId} {k : Addr} {b : Bool} (h : w.heap[at_.block]? = u.heap[at_.block]?) : w.seen P at_ t k b = u.seen P at_ t k b := by
  unfold World.seen
  rw [h]

theorem thr {α : Type} (s : String) : (MonadExcept.throw s : Except String α) = .error s := rfl

theorem seen_poison {P : Program} {u w : World} {at_ : Addr} {t : TypeId} {k : Addr} {b : Bool} {c : Array Value} {e : TypeId} (hu : u.heap[at_.block]? = some (.cells #[] e)) (hw : w.heap[at_.block]? = some (.cells c e))
    {c' : Array Value} {e' : TypeId} {fr : Nat × Nat} {first : Nat} {like : Value} {cells : List (Nat × Nat × List UInt8)} (h : u.seen P at_ t k b = .ok (c', e', fr, first, like, cells)) :
    c' = #[] ∧ e' = e ∧ fr = (0, 0) ∧ cells = [] ∧ w.seen P at_ t k b = .ok (c, e, (0, 0), first, like, []) := by
  unfold World.seen at h ⊢
  simp only [hu, hw, bind, Except.bind, pure, Except.pure, thr] at h ⊢
  repeat' split at h
  all_goals first | (cases h; done) | (exfalso; simp_all; done) | skip
  all_goals
    have hc := ‹seenCells P #[] e _ _ _ = Except.ok _›
    obtain ⟨e1, hx⟩ := seenCells_empty hc
    try subst e1
    first | (cases e1; done) | skip
  all_goals
    simp only [Except.ok.injEq, Prod.mk.injEq] at h
    obtain ⟨rfl, rfl, rfl, rfl, rfl, rfl⟩ := h
    simp_all
end

section

section
variable {X : Nat → Prop} {u w : World}

theorem Pz.cell (h : Pz X u w) {a : Addr} {v : Value} (e : u.cell? a = some v) : w.cell? a = some v ∧ ¬ X a.block ∧ a.block < w.heap.size := by
  have hx : ¬ X a.block := fun hx => by
    obtain ⟨c, t, _, h2⟩ := h.bad _ hx
    simp [World.cell?, h2] at e
  have he := h.same _ hx
  refine ⟨by rw [← e]; simp only [World.cell?, he], hx, ?_⟩
  rcases Nat.lt_or_ge a.block w.heap.size with hl | hl
  · exact hl
  · rw [Array.getElem?_eq_none hl] at he
    simp [World.cell?, ← he] at e

theorem Pz.noneX (h : Pz X u w) {a : Addr} {at_ : Addr} {t : TypeId} (e : u.heap[a.block]? = some (.view at_ t)) : ¬ X a.block ∧ w.heap[a.block]? = some (.view at_ t) := by
  have hx : ¬ X a.block := fun hx => by
    obtain ⟨c, t, _, h2⟩ := h.bad _ hx
    rw [h2] at e; cases e
  exact ⟨hx, (h.same _ hx).trans e⟩

theorem Pz.frozen (h : Pz X u w) (a : Addr) : w.frozen? a = u.frozen? a := by
  by_cases hx : X a.block
  · obtain ⟨c, t, h1, h2⟩ := h.bad _ hx
    simp [World.frozen?, h1, h2]
  · simp only [World.frozen?, h.same _ hx]

theorem Pz.shape_eq (h : Pz X u w) (r : Nat) : w.shape? r = u.shape? r ∨ ∃ t n, u.shape? r = some (t, 0) ∧ w.shape? r = some (t, n) := by
  by_cases hx : X r
  · obtain ⟨c, t, h1, h2⟩ := h.bad _ hx
    exact .inr ⟨t, c.size, by simp [World.shape?, h2], by simp [World.shape?, h1]⟩
  · exact .inl (by simp only [World.shape?, h.same _ hx])

theorem seen_block {P : Program} {at_ : Addr} {t : TypeId} {k : Addr} {b : Bool} {r : Array Value × TypeId × (Nat × Nat) × Nat × Value × List (Nat × Nat × List UInt8)} (h : u.seen P at_ t k b = .ok r) :
    u.heap[at_.block]? = some (.cells r.1 r.2.1 r.2.2.1) := by
  unfold World.seen at h
  simp only [bind, Except.bind, pure, Except.pure, thr] at h
  repeat' split at h
  all_goals first | (cases h; done) | skip
  all_goals (cases h; assumption)

theorem Pz.seen (h : Pz X u w) {P : Program} {at_ : Addr} {t : TypeId} {k : Addr} {b : Bool} {c : Array Value} {e : TypeId} {fr : Nat × Nat} {first : Nat} {like : Value} {cells : List (Nat × Nat × List UInt8)}
    (hs : u.seen P at_ t k b = .ok (c, e, fr, first, like, cells)) :
    ∃ c', w.seen P at_ t k b = .ok (c', e, fr, first, like, cells) ∧ ((¬ X at_.block ∧ c' = c) ∨ (X at_.block ∧ cells = [] ∧ c = #[] ∧ fr = (0, 0))) ∧ at_.block < w.heap.size ∧
      w.heap[at_.block]? = some (.cells c' e fr) := by
  by_cases hx : X at_.block
  · obtain ⟨c', t', h1, h2⟩ := h.bad _ hx
    obtain ⟨rfl, rfl, rfl, rfl, h3⟩ := seen_poison h2 h1 hs
    exact ⟨c', h3, .inr ⟨hx, rfl, rfl, rfl⟩, (Array.getElem?_eq_some_iff.1 h1).1, h1⟩
  · have he := h.same _ hx
    have hb := seen_block hs
    exact ⟨c, (seen_eq he).trans hs, .inl ⟨hx, rfl⟩, (Array.getElem?_eq_some_iff.1 (he.trans hb)).1, he.trans hb⟩

theorem Pz.farLoad (h : Pz X u w) {P : Program} {a : Addr} {b : Bool} {v : Value} {l : List Addr} (e : u.farLoad P a b = .ok (v, l)) (hn : u.cell? a = none) :
    w.cell? a = none ∧ w.farLoad P a b = .ok (v, l) ∧ ∀ x ∈ l, ¬ X x.block ∧ x.block < w.heap.size := by
  unfold World.farLoad at e
  split at e
  · rename_i at_ t hv
    obtain ⟨hx, hw⟩ := h.noneX hv
    have hc : w.cell? a = none := by simp [World.cell?, hw]
    split at e
    · rename_i r hr
      cases e
      unfold World.viewLoad at hr
      simp only [bind, Except.bind, pure, Except.pure, thr] at hr
      split at hr
      · cases hr
      · rename_i z hz
        obtain ⟨c, e', fr, first, like, cells⟩ := z
        obtain ⟨c', h3, h4, h5, _⟩ := h.seen hz
        refine ⟨hc, ?_, ?_⟩
        · unfold World.farLoad World.viewLoad
          simp only [hw, bind, Except.bind, pure, Except.pure, thr, h3]
          simp only at hr
          split at hr
          · rename_i z hz'
            cases hr
            simp only [hz']
          · cases hr
        · simp only at hr
          split at hr
          · cases hr
            intro x hxm
            rcases h4 with ⟨hnx, _⟩ | ⟨_, rfl, _, _⟩
            · obtain ⟨y, _, rfl⟩ := List.mem_map.1 hxm
              exact ⟨hnx, h5⟩
            · simp at hxm
          · cases hr
    · cases e
  · cases e

theorem Pz.set (h : Pz X u w) {b : Nat} (hb : ¬ X b) (o : Obj) : Pz X { u with heap := u.heap.setIfInBounds b o } { w with heap := w.heap.setIfInBounds b o } := by
  refine ⟨by simp [h.size], h.os, h.out, fun x hx => ?_, fun x hx => ?_⟩
  · by_cases e : b = x
    · subst e
      by_cases hl : b < w.heap.size
      · have hl' : b < u.heap.size := by rw [← h.size]; exact hl
        simp [hl, hl']
      · have hl' : ¬ b < u.heap.size := by rw [← h.size]; exact hl
        simp [hl, hl']
    · simp [Array.getElem?_setIfInBounds_ne e, h.same x hx]
  · have e : b ≠ x := fun e => hb (e ▸ hx)
    obtain ⟨c, t, h1, h2⟩ := h.bad x hx
    exact ⟨c, t, by simp [Array.getElem?_setIfInBounds_ne e, h1], by simp [Array.getElem?_setIfInBounds_ne e, h2]⟩

theorem Pz.setCell (h : Pz X u w) {a : Addr} (hb : ¬ X a.block) (v : Value) : Pz X (u.setCell a v) (w.setCell a v) := by
  refine ⟨by simp [World.setCell, h.size], h.os, h.out, fun x hx => ?_, fun x hx => ?_⟩
  · simp only [World.setCell, Array.getElem?_modify, h.same x hx]
  · have e : ¬ a.block = x := fun e => hb (e ▸ hx)
    obtain ⟨c, t, h1, h2⟩ := h.bad x hx
    exact ⟨c, t, by simp [World.setCell, Array.getElem?_modify, e, h1], by simp [World.setCell, Array.getElem?_modify, e, h2]⟩

theorem Pz.draw (h : Pz X u w) (m n : Nat) : Pz X { u with drawn := m } { w with drawn := n } := ⟨h.size, h.os, h.out, h.same, h.bad⟩

theorem Pz.push (h : Pz X u w) (hX : ∀ b, X b → b < u.heap.size) (o : Obj) : Pz X { u with heap := u.heap.push o } { w with heap := w.heap.push o } := by
  refine ⟨by simp [h.size], h.os, h.out, fun x hx => ?_, fun x hx => ?_⟩
  · simp only [Array.getElem?_push, h.size, h.same x hx]
  · have hl := hX x hx
    obtain ⟨c, t, h1, h2⟩ := h.bad x hx
    have hl' : x < w.heap.size := by rw [h.size]; exact hl
    refine ⟨c, t, ?_, ?_⟩
    · rw [Array.getElem?_push_lt hl', ← Array.getElem?_eq_getElem hl']; exact h1
    · rw [Array.getElem?_push_lt hl, ← Array.getElem?_eq_getElem hl]; exact h2

theorem Pz.lt (h : Pz X u w) : ∀ b, X b → b < u.heap.size := fun b hb => by
  obtain ⟨c, t, _, h2⟩ := h.bad b hb
  exact (Array.getElem?_eq_some_iff.1 h2).1

theorem Pz.farStore (h : Pz X u w) {P : Program} {a : Addr} {v : Value} {b : Bool} {u' : World} {l : List Addr} (e : u.farStore P a v b = .ok (u', l)) (hn : u.cell? a = none) :
    w.cell? a = none ∧ ∃ w', w.farStore P a v b = .ok (w', l) ∧ Pz X u' w' ∧ (∀ x ∈ l, ¬ X x.block ∧ x.block < w'.heap.size) ∧ w'.tape = w.tape ∧ u'.tape = u.tape ∧ w'.drawn = w.drawn ∧ u'.drawn = u.drawn ∧ u'.heap.size = u.heap.size := by
  unfold World.farStore at e
  split at e
  · rename_i at_ t hv
    obtain ⟨hx, hw⟩ := h.noneX hv
    have hc : w.cell? a = none := by simp [World.cell?, hw]
    refine ⟨hc, ?_⟩
    split at e
    · rename_i r hr
      cases e
      unfold World.viewStore at hr
      simp only [bind, Except.bind, pure, Except.pure, thr] at hr
      split at hr
      · cases hr
      rename_i hti
      split at hr
      · cases hr
      · rename_i z hz
        obtain ⟨c, e', fr, first, like, cells⟩ := z
        obtain ⟨c', h3, h4, h5, h6⟩ := h.seen hz
        unfold World.farStore World.viewStore
        simp only [hw, bind, Except.bind, pure, Except.pure, thr, h3, hti]
        split at hr
        · rename_i bs hbs
          try simp only [hbs]
          split at hr
          · cases hr
          · rename_i hlen
            simp only [hlen]
            split at hr
            · cases hr
            · rename_i c1 hc1
              cases hr
              rcases h4 with ⟨hnx, rfl⟩ | ⟨hxx, rfl, rfl, rfl⟩
              · simp only [if_false, hc1]
                refine ⟨_, rfl, h.set hnx _, fun x hxm => ?_, (by first | rfl | trivial), (by first | rfl | trivial), (by first | rfl | trivial), (by first | rfl | trivial), by simp⟩
                obtain ⟨y, _, rfl⟩ := List.mem_map.1 hxm
                exact ⟨hnx, by simpa using h5⟩
              · simp only [List.foldlM, pure, Except.pure] at hc1 ⊢
                cases hc1
                refine ⟨_, rfl, ?_, by simp, (by first | rfl | trivial), (by first | rfl | trivial), (by first | rfl | trivial), (by first | rfl | trivial), by simp⟩
                have e1 : u.heap.setIfInBounds at_.block (.cells #[] e') = u.heap := by
                  obtain ⟨_, t', _, h2⟩ := h.bad _ hxx
                  have hb := seen_block hz
                  apply Array.ext_getElem?
                  intro i
                  by_cases ei : at_.block = i
                  · subst ei
                    rw [hb]
                    have := (Array.getElem?_eq_some_iff.1 hb).1
                    simp [this]
                  · rw [Array.getElem?_setIfInBounds_ne ei]
                have e2 : w.heap.setIfInBounds at_.block (.cells c' e') = w.heap := by
                  apply Array.ext_getElem?
                  intro i
                  by_cases ei : at_.block = i
                  · subst ei
                    rw [h6]
                    simp [h5]
                  · rw [Array.getElem?_setIfInBounds_ne ei]
                rw [e1, e2]
                exact h
        · cases hr
    · cases e
  · cases e
end

/-- A value of one cell. -/
def OneCell (v : Value) : Prop := (∀ c, v ≠ .agg c) ∧ ∀ c, v ≠ .tuple c

theorem store_plain {α : Type} {m : Mode} {a : Addr} {v : Value} {k : Sem α} {P : Program} {u u' : World} {b : α} (e : (Sem.store m a v k).run P u = .ok b u') : OneCell v := by
  cases v with
  | agg c => simp [Sem.run] at e
  | tuple c => simp [Sem.run] at e
  | _ => exact ⟨by simp, by simp⟩

theorem run_store {α : Type} {m : Mode} {a : Addr} {v : Value} {k : Sem α} {P : Program} {x : World} (hp : OneCell v) : (Sem.store m a v k).run P x = match x.cell? a with
    | some _ => if x.frozen? a then Result.halt (.unsupported (.unsafePointer "a write to bytes that a string shares")) x else k.run P (x.setCell a v)
    | none => match x.farStore P a v (m == Mode.atomic) with
      | .ok (w, _) => k.run P w
      | .error h => .halt h x := by
  cases v with
  | agg c => exact absurd rfl (hp.1 c)
  | tuple c => exact absurd rfl (hp.2 c)
  | _ => rfl

theorem events_store' {α : Type} {m : Mode} {a : Addr} {v : Value} {k : Sem α} {P : Program} {x : World} {es : Array Event} (hp : OneCell v) : (Sem.store m a v k).events P x es = match x.cell? a with
    | some _ => if x.frozen? a then es else k.events P (x.setCell a v) (es.push ⟨.cell a, true, m == Mode.atomic⟩)
    | none => match x.farStore P a v (m == Mode.atomic) with
      | .ok (w, l) => k.events P w (es ++ l.toArray.map (⟨.cell ·, true, m == Mode.atomic⟩))
      | .error _ => es := by
  have key : (Sem.store m a v k).runT P x es = match x.cell? a with
    | some _ =>
      if x.frozen? a then (.halt (.unsupported (.unsafePointer "a write to bytes that a string shares")) x, es)
      else k.runT P (x.setCell a v) (es.push ⟨.cell a, true, m == Mode.atomic⟩)
    | none => match x.farStore P a v (m == Mode.atomic) with
      | .ok (w, touched) => k.runT P w (es ++ touched.toArray.map (⟨.cell ·, true, m == Mode.atomic⟩))
      | .error h => (.halt h x, es) := by
    cases v with
    | agg c => exact absurd rfl (hp.1 c)
    | tuple c => exact absurd rfl (hp.2 c)
    | _ => rfl
  unfold Sem.events
  rw [key]
  split
  · split <;> rfl
  · split <;> rfl

/-- ████ -/
theorem Fit.sim {X : Nat → Prop} {P : Program} {α : Type} {s : Sem α} (hs : Fit P s) : ∀ {u w : World} {a : α} {u' : World}, Pz X u w → s.run P u = .ok a u' →
    (u'.tape = u.tape ∧ u.drawn ≤ u'.drawn ∧ u.heap.size ≤ u'.heap.size) ∧
    ((∀ i q, i < u'.drawn - u.drawn → u.tape (u.drawn + i) q = w.tape (w.drawn + i) q) →
      ∃ w', s.run P w = .ok a w' ∧ Pz X u' w' ∧ w'.tape = w.tape ∧ w'.drawn + u.drawn = w.drawn + u'.drawn ∧ ∀ es e, e ∈ s.events P w es → e ∈ es ∨ GoodE X w'.heap.size e) := by
  induction hs with
  | pure a =>
    intro u w b u' h e
    cases e
    exact ⟨⟨rfl, Nat.le_refl _, Nat.le_refl _⟩, fun _ => ⟨w, rfl, h, rfl, rfl, fun es e he => .inl he⟩⟩
  | load m a hm hk ih =>
    intro u w b u' h e
    have hma : (m == Mode.atomic) = false := by simpa using hm
    simp only [Sem.run] at e
    split at e
    · rename_i v hv
      obtain ⟨hw, hx, hl⟩ := h.cell hv
      obtain ⟨h1, h2⟩ := ih v h e
      refine ⟨h1, fun ht => ?_⟩
      obtain ⟨w', r1, r2, r3, r4, r5⟩ := h2 ht
      refine ⟨w', by simp only [Sem.run, hw]; exact r1, r2, r3, r4, fun es e he => ?_⟩
      simp only [Sem.events, Sem.runT, hw] at he
      rcases r5 _ _ he with hm | hg
      · rcases Array.mem_push.1 hm with hm | rfl
        · exact .inl hm
        · exact .inr (.inl ⟨a, rfl, hx, Nat.lt_of_lt_of_le hl (by rw [h.size, r2.size]; exact h1.2.2), hma⟩)
      · exact .inr hg
    · rename_i hv
      split at e
      · rename_i v l hf
        obtain ⟨hw, hw2, hl⟩ := h.farLoad hf hv
        obtain ⟨h1, h2⟩ := ih v h e
        refine ⟨h1, fun ht => ?_⟩
        obtain ⟨w', r1, r2, r3, r4, r5⟩ := h2 ht
        refine ⟨w', by simp only [Sem.run, hw, hw2]; exact r1, r2, r3, r4, fun es e he => ?_⟩
        simp only [Sem.events, Sem.runT, hw, hw2] at he
        rcases r5 _ _ he with hm | hg
        · rcases Array.mem_append.1 hm with hm | hm
          · exact .inl hm
          · obtain ⟨x, hxm, rfl⟩ := Array.mem_map.1 hm
            have := hl x (by simpa using hxm)
            exact .inr (.inl ⟨x, rfl, this.1, Nat.lt_of_lt_of_le this.2 (by rw [h.size, r2.size]; exact h1.2.2), hma⟩)
        · exact .inr hg
      · cases e
  | store m a v hm hk ih =>
    intro u w b u' h e
    have hma : (m == Mode.atomic) = false := by simpa using hm
    have hp := store_plain e
    rw [run_store hp] at e
    split at e
    · rename_i v0 hv
      split at e
      · cases e
      · rename_i hfz
        obtain ⟨hw, hx, hl⟩ := h.cell hv
        obtain ⟨h1, h2⟩ := ih (h.setCell hx v) e
        have hsz : (u.setCell a v).heap.size = u.heap.size := by simp [World.setCell]
        refine ⟨⟨h1.1, h1.2.1, by rw [hsz] at h1; exact h1.2.2⟩, fun ht => ?_⟩
        obtain ⟨w', r1, r2, r3, r4, r5⟩ := h2 ht
        refine ⟨w', by rw [run_store hp, hw]; simp only [h.frozen, hfz]; exact r1, r2, r3, r4, fun es e he => ?_⟩
        rw [events_store' hp, hw] at he
        simp only [h.frozen, hfz] at he
        rcases r5 _ _ he with hm | hg
        · rcases Array.mem_push.1 hm with hm | rfl
          · exact .inl hm
          · exact .inr (.inl ⟨a, rfl, hx, Nat.lt_of_lt_of_le hl (by rw [h.size, r2.size, ← hsz]; exact h1.2.2), hma⟩)
        · exact .inr hg
    · rename_i hv
      split at e
      · rename_i u1 l hf
        obtain ⟨hw, w1, hw2, hp1, hl, t1, t2, d1, d2, hsz⟩ := h.farStore hf hv
        obtain ⟨h1, h2⟩ := ih hp1 e
        refine ⟨⟨h1.1.trans t2, by rw [← d2]; exact h1.2.1, by rw [← hsz]; exact h1.2.2⟩, fun ht => ?_⟩
        obtain ⟨w', r1, r2, r3, r4, r5⟩ := h2 (by rw [t1, t2, d1, d2]; exact ht)
        refine ⟨w', by rw [run_store hp, hw]; simp only [hw2]; exact r1, r2, r3.trans t1, by rw [d1, d2] at r4; exact r4, fun es e he => ?_⟩
        rw [events_store' hp, hw] at he
        simp only [hw2] at he
        rcases r5 _ _ he with hm | hg
        · rcases Array.mem_append.1 hm with hm | hm
          · exact .inl hm
          · obtain ⟨x, hxm, rfl⟩ := Array.mem_map.1 hm
            have := hl x (by simpa using hxm)
            exact .inr (.inl ⟨x, rfl, this.1, Nat.lt_of_lt_of_le this.2 (by rw [hp1.size, r2.size]; exact h1.2.2), hma⟩)
        · exact .inr hg
      · cases e
  | new o hk ih =>
    intro u w b u' h e
    simp only [Sem.run] at e
    obtain ⟨h1, h2⟩ := ih _ (h.push h.lt o) e
    refine ⟨⟨h1.1, h1.2.1, Nat.le_trans (by simp) h1.2.2⟩, fun ht => ?_⟩
    obtain ⟨w', r1, r2, r3, r4, r5⟩ := h2 ht
    refine ⟨w', by simp only [Sem.run, h.size]; exact r1, r2, r3, r4, fun es e he => ?_⟩
    simp only [Sem.events, Sem.runT, h.size] at he
    exact r5 _ _ he
  | shape r hk heq ih =>
    intro u w b u' h e
    simp only [Sem.run] at e
    rcases h.shape_eq r with hs | ⟨t, n, hu, hw⟩
    · obtain ⟨h1, h2⟩ := ih _ h e
      refine ⟨h1, fun ht => ?_⟩
      obtain ⟨w', r1, r2, r3, r4, r5⟩ := h2 ht
      refine ⟨w', by simp only [Sem.run, hs]; exact r1, r2, r3, r4, fun es e he => ?_⟩
      simp only [Sem.events, Sem.runT, hs] at he
      exact r5 _ _ he
    · rw [hu] at e
      rcases heq t n with he | hno
      · obtain ⟨h1, h2⟩ := ih _ h e
        refine ⟨h1, fun ht => ?_⟩
        obtain ⟨w', r1, r2, r3, r4, r5⟩ := h2 ht
        refine ⟨w', by simp only [Sem.run, hw, ← he]; exact r1, r2, r3, r4, fun es e he' => ?_⟩
        simp only [Sem.events, Sem.runT, hw, ← he] at he'
        exact r5 _ _ he'
      · exact absurd e (hno.no _ _ _)
  | frozen a hk ih =>
    intro u w b u' h e
    simp only [Sem.run] at e
    obtain ⟨h1, h2⟩ := ih _ h e
    refine ⟨h1, fun ht => ?_⟩
    obtain ⟨w', r1, r2, r3, r4, r5⟩ := h2 ht
    refine ⟨w', by simp only [Sem.run, h.frozen]; exact r1, r2, r3, r4, fun es e he => ?_⟩
    simp only [Sem.events, Sem.runT, h.frozen] at he
    exact r5 _ _ he
  | getObj r hk ih =>
    intro u w b u' h e
    simp only [Sem.run] at e
    split at e
    · cases e
    · rename_i o hnc ho
      have hx : ¬ X r := fun hx => by
        obtain ⟨c, t, _, h2⟩ := h.bad _ hx
        rw [h2] at ho
        cases ho
        exact hnc _ _ _ rfl
      have hw := (h.same _ hx).trans ho
      obtain ⟨h1, h2⟩ := ih o h e
      refine ⟨h1, fun ht => ?_⟩
      obtain ⟨w', r1, r2, r3, r4, r5⟩ := h2 ht
      refine ⟨w', ?_, r2, r3, r4, fun es e he => ?_⟩
      · simp only [Sem.run, hw]
        cases o <;> first | exact r1 | exact absurd rfl (hnc _ _ _)
      · have hl : r < w.heap.size := (Array.getElem?_eq_some_iff.1 hw).1
        have he' : e ∈ (‹Obj → Sem _› o).events P w (es.push ⟨.obj r, false, o.isChan⟩) := by
          simp only [Sem.events, Sem.runT, hw] at he
          cases o <;> first | exact he | exact absurd rfl (hnc _ _ _)
        rcases r5 _ _ he' with hm | hg
        · rcases Array.mem_push.1 hm with hm | rfl
          · exact .inl hm
          · exact .inr (.inr (.inl ⟨r, rfl, Nat.lt_of_lt_of_le hl (by rw [h.size, r2.size]; exact h1.2.2)⟩))
        · exact .inr hg
    · cases e
  | choose q hk ih =>
    intro u w b u' h e
    simp only [Sem.run] at e
    split at e
    · rename_i hf
      obtain ⟨h1, h2⟩ := ih _ h e
      refine ⟨h1, fun ht => ?_⟩
      obtain ⟨w', r1, r2, r3, r4, r5⟩ := h2 ht
      refine ⟨w', by simp only [Sem.run, hf]; exact r1, r2, r3, r4, fun es e he => ?_⟩
      simp only [Sem.events, Sem.runT, hf] at he
      exact r5 _ _ he
    · rename_i hf
      obtain ⟨h1, h2⟩ := ih _ (h.draw (u.drawn + 1) (w.drawn + 1)) e
      have hd : u.drawn + 1 ≤ u'.drawn := h1.2.1
      refine ⟨⟨h1.1, by omega, h1.2.2⟩, fun ht => ?_⟩
      obtain ⟨w', r1, r2, r3, r4, r5⟩ := h2 fun i q' hi => by
        have := ht (i + 1) q' (by simp only at hi; omega)
        simp only
        rw [Nat.add_assoc, Nat.add_comm 1 i, Nat.add_assoc, Nat.add_comm 1 i]
        exact this
      have h0 := ht 0 q (by omega)
      simp only [Nat.add_zero] at h0
      refine ⟨w', by simp only [Sem.run, hf, ← h0]; exact r1, r2, r3, by simp only at r4; omega, fun es e he => ?_⟩
      simp only [Sem.events, Sem.runT, hf, ← h0] at he
      exact r5 _ _ he
  | program hk ih =>
    intro u w b u' h e
    simp only [Sem.run] at e
    obtain ⟨h1, h2⟩ := ih h e
    refine ⟨h1, fun ht => ?_⟩
    obtain ⟨w', r1, r2, r3, r4, r5⟩ := h2 ht
    exact ⟨w', r1, r2, r3, r4, r5⟩
  | mark m hm hk ih =>
    intro u w b u' h e
    simp only [Sem.run] at e
    obtain ⟨h1, h2⟩ := ih h e
    refine ⟨h1, fun ht => ?_⟩
    obtain ⟨w', r1, r2, r3, r4, r5⟩ := h2 ht
    refine ⟨w', r1, r2, r3, r4, fun es e he => ?_⟩
    simp only [Sem.events, Sem.runT] at he
    rcases r5 _ _ he with hm' | hg
    · rcases Array.mem_push.1 hm' with hm' | rfl
      · exact .inl hm'
      · rcases hm with rfl | ⟨f, rfl⟩
        · exact .inr (.inr (.inr (.inl rfl)))
        · exact .inr (.inr (.inr (.inr ⟨f, rfl⟩)))
    · exact .inr hg
  | halt h =>
    intro u w b u' _ e
    cases e
  | nok h =>
    intro u w b u' _ e
    exact absurd e (h.no _ _ _)
end

section

section
variable {P : Program} {α β : Type}

theorem Fit.bd {s : Sem α} {f : α → Sem β} (h : Fit P s) (hf : ∀ a, Fit P (f a)) : Fit P (s >>= f) := Fit.bind h hf
theorem Fit.mp {s : Sem α} {f : α → β} (h : Fit P s) : Fit P (Functor.map f s) := Fit.bind h fun a => .pure _
theorem Fit.pr (a : α) : Fit P (Pure.pure a : Sem α) := .pure a
theorem Nok.b1 {s : Sem α} (h : Nok P s) (f : α → Sem β) : Nok P (s >>= f) := h.bind1 f
theorem Nok.b2 {s : Sem α} {f : α → Sem β} (hs : Fit P s) (h : ∀ a, Nok P (f a)) : Nok P (s >>= f) := Nok.bind2 hs.mild h
theorem Nok.b3 {s : Sem α} {f : α → Sem β} (hs : Mld P s) (h : ∀ a, Nok P (f a)) : Nok P (s >>= f) := Nok.bind2 hs h
theorem fit_stuck (m : String) : Fit P (stuck m : Sem α) := .halt trivial
theorem fit_unsup (m : Unsupported) : Fit P (unsupported m : Sem α) := .halt trivial
theorem fit_panic (v : Value) : Fit P (goPanic v : Sem α) := .halt trivial
theorem nok_panic (v : Value) : Nok P (goPanic v : Sem α) := Nok.halt trivial
theorem nok_unsup (m : Unsupported) : Nok P (unsupported m : Sem α) := Nok.halt trivial
theorem fit_load (a : Addr) (m : Mode) (hm : m ≠ .atomic := by decide) : Fit P (load a m) := .load _ _ hm fun v => .pure v
theorem fit_store (a : Addr) (v : Value) (m : Mode) (hm : m ≠ .atomic := by decide) : Fit P (store a v m) := .store _ _ _ hm (.pure _)
theorem fit_newObj (o : Obj) : Fit P (newObj o) := .new _ fun r => .pure r
theorem fit_frozen (a : Addr) : Fit P (frozen a) := .frozen _ fun r => .pure r
theorem fit_getObj (r : Nat) : Fit P (getObj r) := .getObj _ fun r => .pure r
theorem fit_choose (q : Question) : Fit P (choose q) := .choose _ fun r => .pure r
theorem fit_noRoom : Fit P (mark .noRoom) := .mark _ (.inl rfl) (.pure _)
theorem fit_extern (f : FuncId) : Fit P (mark (.extern f)) := .mark _ (.inr ⟨f, rfl⟩) (.pure _)
theorem fit_program : Fit P program := .program (.pure _)
theorem fit_program_bind {k : Program → Sem β} (h : Fit P (k P)) : Fit P (program >>= k) := .program h
theorem nok_program_bind {k : Program → Sem β} (h : Nok P (k P)) : Nok P (program >>= k) := fun u => h u
theorem fit_askRoom (n : Nat) : Fit P (askRoom n) := by unfold askRoom; split; exact fit_noRoom; exact .pr _
theorem fit_typeInfo (t : TypeId) : Fit P (typeInfo t) := by
  unfold typeInfo
  refine fit_program_bind ?_
  split
  · exact .pr _
  · exact fit_stuck _
theorem fit_underlying (t : TypeId) : Fit P (underlying t) := by
  unfold underlying
  refine fit_program_bind ?_
  split
  · exact .pr _
  · exact fit_stuck _
theorem fit_underlying_bind {t : TypeId} {d : TypeDesc} {k : TypeDesc → Sem β} (hd : P.underlying t = some d) (h : Fit P (k d)) : Fit P (underlying t >>= k) := by
  unfold underlying
  refine Fit.program ?_
  simp only [Bind.bind, Sem.bind, hd]
  exact h
end

section
variable {P : Program}
theorem fit_zeroValue (t : TypeId) : Fit P (zeroValue t) := by
  unfold zeroValue
  refine .bd (fit_typeInfo t) fun i => ?_
  split
  · exact .pr _
  · exact fit_unsup _
theorem fit_sizeOf (t : TypeId) : Fit P (sizeOf t) := .bd (fit_typeInfo t) fun i => .pr _
theorem fit_isAgg (t : TypeId) : Fit P (isAgg t) := by
  unfold isAgg
  refine .bd (fit_underlying t) fun d => ?_
  split <;> exact .pr _
theorem fit_loadCellsFrom (a : Addr) : ∀ (n i : Nat) (acc : Array Value), Fit P (loadCellsFrom a i n acc)
  | 0, i, acc => .pr _
  | n + 1, i, acc => .bd (fit_load _ _) fun v => fit_loadCellsFrom a n _ _
theorem fit_loadCells (a : Addr) (n : Nat) : Fit P (loadCells a n) := fit_loadCellsFrom a n 0 _
theorem fit_storeCells (a : Addr) : ∀ (vs : List Value) (i : Nat), Fit P (storeCells a vs i)
  | [], i => .pr _
  | v :: vs, i => .bd (fit_store _ _ _) fun _ => fit_storeCells a vs _
theorem fit_loadVar (t : TypeId) (a : Addr) : Fit P (loadVar t a) := by
  unfold loadVar
  refine .bd (fit_isAgg t) fun b => ?_
  split
  · exact .bd (fit_sizeOf t) fun n => .bd (fit_loadCells _ _) fun _ => .pr _
  · exact fit_load _ _
theorem fit_storeVar (t : TypeId) (a : Addr) (v : Value) : Fit P (storeVar t a v) := by
  unfold storeVar
  refine .bd (fit_sizeOf t) fun n => ?_
  split
  · exact .bd (fit_stuck _) fun _ => fit_storeCells _ _ _
  · exact fit_storeCells _ _ _
theorem fit_newRow (t : TypeId) (c : Array Value) : Fit P (newRow t c) := .bd (fit_newObj _) fun _ => .pr _
theorem fit_newVar (t : TypeId) (v : Value) : Fit P (newVar t v) := fit_newRow _ _
theorem fit_part (t : TypeId) (cs : Array Value) (n : Nat) : Fit P (part t cs n) := by
  unfold part
  refine .bd (fit_isAgg t) fun b => ?_
  split
  · exact .bd (fit_sizeOf t) fun n => .pr _
  · split
    · exact .pr _
    · exact fit_stuck _
theorem fit_elemOf (t : TypeId) : Fit P (elemOf t) := by
  unfold elemOf
  refine .bd (fit_underlying t) fun d => ?_
  split
  · exact .pr _
  · exact fit_stuck _
theorem nok_runtimePanic {α : Type} (e : RuntimeError) : Nok P (runtimePanic e : Sem α) := by
  unfold runtimePanic
  refine nok_program_bind ?_
  cases e <;> first | exact nok_panic _ | exact Nok.b2 (fit_elemOf _) fun _ => Nok.b2 (fit_newVar _ _) fun _ => nok_panic _
theorem fit_runtimePanic {α : Type} (e : RuntimeError) : Fit P (runtimePanic e : Sem α) := .nok (nok_runtimePanic e)
theorem nok_boundsPanic {α : Type} (k : IntKind) (x y : Int) (c : BoundsCode) : Nok P (boundsPanic k x y c : Sem α) := by
  unfold boundsPanic
  dsimp only
  split
  · exact Nok.b2 (.mp (fit_choose _)) fun _ => nok_runtimePanic _
  · exact Nok.b2 (.pr _) fun _ => nok_runtimePanic _
theorem fit_boundsPanic {α : Type} (k : IntKind) (x y : Int) (c : BoundsCode) : Fit P (boundsPanic k x y c : Sem α) := .nok (nok_boundsPanic k x y c)
theorem fit_asIntOf (v : Value) : Fit P (asIntOf v) := by
  unfold asIntOf
  split
  · exact .pr _
  · exact fit_unsup _
  · exact fit_stuck _
theorem fit_asInt (v : Value) : Fit P (asInt v) := .bd (fit_asIntOf v) fun _ => .pr _
theorem fit_asBool (v : Value) : Fit P (asBool v) := by
  unfold asBool
  split
  · exact .pr _
  · exact fit_stuck _
theorem fit_asAgg (v : Value) : Fit P (asAgg v) := by
  unfold asAgg
  split
  · exact .pr _
  · exact fit_stuck _
theorem fit_asAddr (v : Value) : Fit P (asAddr v) := by
  unfold asAddr
  split
  · exact .pr _
  · exact fit_runtimePanic _
  · exact fit_stuck _
theorem fit_sureAddr (v : Value) : Fit P (Instr.sureAddr v) := by
  unfold Instr.sureAddr
  split
  · exact .pr _
  · exact fit_stuck _

/-! ### places -/
theorem fit_viewAt (r : Nat) : Fit P (viewAt r) := by
  unfold viewAt
  refine .shape r (fun s => ?_) (fun t n => .inl rfl)
  show Fit P (if s.isSome = true then _ else _)
  split
  · exact .pr _
  · refine .bd (fit_getObj r) fun o => ?_
    split <;> exact .pr _
theorem fit_numberAt (r : Nat) : Fit P (numberAt r) := by
  unfold numberAt
  refine .shape r (fun s => ?_) (fun t n => .inl rfl)
  show Fit P (if s.isSome = true then _ else _)
  split
  · exact .pr _
  · refine .bd (fit_getObj r) fun o => ?_
    split <;> exact .pr _
theorem fit_behindNumber (a : Addr) : Fit P (behindNumber a) := .bd (fit_numberAt _) fun _ => .pr _
theorem fit_noView (a : Addr) : Fit P (noView a) := by
  unfold noView
  refine .bd (fit_viewAt _) fun o => ?_
  split
  · exact fit_unsup _
  · exact .pr _
theorem fit_asNumber (a : Addr) (b : Bool) : Fit P (asNumber a b) := .bd (fit_newObj _) fun _ => .pr _
theorem fit_byteOf (a : Addr) : Fit P (byteOf a) := by
  unfold byteOf
  split
  · exact .pr _
  refine fit_program_bind ?_
  refine .bd (fit_noView a) fun _ => ?_
  refine .shape _ (fun s => ?_) (fun t n => .inl rfl)
  cases s with
  | none => exact fit_stuck _
  | some s =>
    obtain ⟨e, n⟩ := s
    show Fit P (if P.cellsOf e = 0 then _ else _)
    split
    · exact .pr _
    · split
      · exact .pr _
      · exact fit_stuck _
theorem fit_partAt (a : Addr) (c b : Nat) : Fit P (partAt a c b) := by
  unfold partAt
  refine .bd (fit_byteOf a) fun x => .bd (fit_byteOf _) fun y => .pr _
theorem fit_fieldPlace (a : Addr) (f : Field) : Fit P (fieldPlace a f) := by
  unfold fieldPlace
  refine .bd (fit_sizeOf _) fun n => ?_
  split
  · exact fit_partAt _ _ _
  · exact .pr _
end
end

section

section
variable {P : Program}
theorem fit_intArith (op : BinOp) (k : IntKind) (x y : Int) : Fit P (Op.intArith op k x y) := by unfold Op.intArith; split <;> first | exact .pr _ | exact fit_stuck _
theorem fit_intBits (op : BinOp) (k : IntKind) (x y : Int) : Fit P (Op.intBits op k x y) := by unfold Op.intBits; dsimp only; split <;> first | exact .pr _ | exact fit_stuck _
theorem fit_intCmp (op : BinOp) (x y : Int) : Fit P (Op.intCmp op x y) := by unfold Op.intCmp; split <;> first | exact .pr _ | exact fit_stuck _
theorem fit_intDiv (op : BinOp) (k : IntKind) (x y : Int) : Fit P (Op.intDiv op k x y) := by
  unfold Op.intDiv
  split
  · exact fit_runtimePanic _
  · split <;> first | exact .pr _ | exact fit_stuck _
theorem fit_shift (op : BinOp) (k : IntKind) (x : Int) (yk : IntKind) (y : Int) : Fit P (Op.shift op k x yk y) := by
  unfold Op.shift
  split
  · exact fit_runtimePanic _
  · dsimp only
    split <;> first | exact .pr _ | exact fit_stuck _
theorem fit_stringOp (op : BinOp) (x y : ByteArray) : Fit P (Op.stringOp op x y) := by
  unfold Op.stringOp
  dsimp only
  split
  · split
    · exact fit_unsup _
    · exact .pr _
  all_goals first | exact .pr _ | exact fit_stuck _
theorem fit_floatArith (op : BinOp) (k : FloatKind) (x y : Nat) : Fit P (Op.floatArith op k x y) := by
  unfold Op.floatArith
  dsimp only
  have key : ∀ r : Option Nat, Fit P (match r with | some r => (Pure.pure (.float k r) : Sem Value) | none => do pure (.float k (← choose (.nanBits k x y)))) := fun r => by
    split
    · exact .pr _
    · exact .bd (fit_choose _) fun _ => .pr _
  split <;> first | exact .bd (.pr _) key | exact .bd (fit_stuck _) key
theorem fit_floatCmp (op : BinOp) (k : FloatKind) (x y : Nat) : Fit P (Op.floatCmp op k x y) := by unfold Op.floatCmp; dsimp only; split <;> first | exact .pr _ | exact fit_stuck _
theorem fit_cxArith (op : BinOp) (k : FloatKind) (x y : Nat) : Fit P (Op.Complex.arith op k x y) := by
  unfold Op.Complex.arith
  refine .bd (fit_floatArith _ _ _ _) fun v => ?_
  split <;> first | exact .pr _ | exact fit_stuck _
theorem fit_cxCmp (op : BinOp) (k : FloatKind) (x y : Nat) : Fit P (Op.Complex.cmp op k x y) := .bd (fit_floatCmp _ _ _ _) fun v => fit_asBool v
theorem fit_f2f (s : FloatKind) (x : Nat) (d : FloatKind) : Fit P (Conv.floatToFloat s x d) := by
  unfold Conv.floatToFloat
  split
  · exact .pr _
  split
  · exact .bd (fit_choose _) fun _ => .pr _
  · exact .pr _
  · dsimp only
    split
    · exact .bd (fit_choose _) fun _ => .pr _
    · exact .pr _
theorem fit_cxConv (s : FloatKind) (x : Nat) (d : FloatKind) : Fit P (Op.Complex.conv s x d) := by
  unfold Op.Complex.conv
  split
  · exact .pr _
  · refine .bd (fit_f2f _ _ _) fun v => ?_
    split <;> first | exact .pr _ | exact fit_stuck _
theorem fit_cxAdd (a b : Nat) : Fit P (Op.Complex.add a b) := fit_cxArith _ _ _ _
theorem fit_cxSub (a b : Nat) : Fit P (Op.Complex.sub a b) := fit_cxArith _ _ _ _
theorem fit_cxMul (a b : Nat) : Fit P (Op.Complex.mul a b) := fit_cxArith _ _ _ _
theorem fit_cxQuo (a b : Nat) : Fit P (Op.Complex.quo a b) := fit_cxArith _ _ _ _
theorem fit_cxProduct (a b c d : Nat) : Fit P (Op.Complex.product a b c d) := by
  unfold Op.Complex.product
  repeat' with_reducible first | refine .bd ?_ fun _ => ?_ | exact .pr _ | exact fit_stuck _ | exact fit_cxAdd _ _ | exact fit_cxSub _ _ | exact fit_cxMul _ _ | exact fit_cxQuo _ _ | exact fit_cxArith _ _ _ _ | exact fit_cxCmp _ _ _ _ | exact fit_cxConv _ _ _ | split
theorem fit_cxCorrected (s a b c d : Nat) : Fit P (Op.Complex.corrected s a b c d) := by
  unfold Op.Complex.corrected
  repeat' with_reducible first | refine .bd ?_ fun _ => ?_ | exact .pr _ | exact fit_stuck _ | exact fit_cxAdd _ _ | exact fit_cxSub _ _ | exact fit_cxMul _ _ | exact fit_cxQuo _ _ | exact fit_cxArith _ _ _ _ | exact fit_cxCmp _ _ _ _ | exact fit_cxConv _ _ _ | split
theorem fit_cxQuotient (a b c d : Nat) : Fit P (Op.Complex.quotient a b c d) := by
  unfold Op.Complex.quotient
  dsimp only
  repeat' with_reducible first | refine .bd ?_ fun _ => ?_ | exact .pr _ | exact fit_stuck _ | exact fit_cxAdd _ _ | exact fit_cxSub _ _ | exact fit_cxMul _ _ | exact fit_cxQuo _ _ | exact fit_cxArith _ _ _ _ | exact fit_cxCmp _ _ _ _ | exact fit_cxConv _ _ _ | exact fit_cxCorrected _ _ _ _ _ | split
theorem fit_complexOp (op : BinOp) (k : FloatKind) (a b c d : Nat) : Fit P (Op.complexOp op k a b c d) := by
  unfold Op.complexOp
  repeat' with_reducible first | refine .bd ?_ fun _ => ?_ | exact .pr _ | exact fit_stuck _ | exact fit_cxAdd _ _ | exact fit_cxSub _ _ | exact fit_cxMul _ _ | exact fit_cxQuo _ _ | exact fit_cxArith _ _ _ _ | exact fit_cxCmp _ _ _ _ | exact fit_cxConv _ _ _ | exact fit_cxCorrected _ _ _ _ _ | exact fit_cxProduct _ _ _ _ | exact fit_cxQuotient _ _ _ _ | split
end
end

section

/-- Types whose values are one word without an address. -/
def PlainD (d : TypeDesc) : Prop := (∃ k, d = .int k) ∨ d = .bool ∨ d = .string

section
variable {P : Program}
theorem fit_cellAt0 (e : TypeId) (off : Nat) (n : Int) : cellAtBytes P P.depth e (0 / P.cellsOf e) off n = none := by
  unfold cellAtBytes
  simp only [Nat.zero_div, Nat.zero_mul]
  split
  · rfl
  · cases byteOfCell P P.depth e (off % P.cellsOf e) with
    | none => rfl
    | some h =>
      simp only [Option.bind_eq_bind, Option.bind_some]
      rw [if_pos]
      · rfl
      · rcases Int.lt_or_le (Int.ofNat (off / P.cellsOf e * P.bytesOf e + h) + n) 0 with hl | hl
        · rw [decide_eq_true hl]; rfl
        · rw [Bool.or_eq_true]; exact .inr (decide_eq_true hl)
theorem fit_ite {α : Type} {c : Prop} [Decidable c] {a b : Sem α} (h1 : Fit P a) (h2 : Fit P b) : Fit P (if c then a else b) := by split <;> assumption
theorem fit_addTail (a : Addr) (n : Int) : Fit P (do
    match ← shape a.block with
    | some (e, cells) =>
      let p ← program
      match cellAtBytes p p.depth e (cells / p.cellsOf e) a.off n with
      | some off => pure (Value.pointer (some { a with off }))
      | none => unsupported (.unsafePointer "Add")
    | _ => unsupported (.unsafePointer "Add")) := by
  refine .shape _ (fun s => ?_) (fun t n' => .inr ?_)
  · cases s with
    | none => exact fit_unsup _
    | some s =>
      refine fit_program_bind ?_
      split
      · exact .pr _
      · exact fit_unsup _
  · refine nok_program_bind (k := fun p => match cellAtBytes p p.depth t (0 / p.cellsOf t) a.off n with
      | some off => pure (Value.pointer (some { a with off }))
      | none => unsupported (.unsafePointer "Add")) ?_
    simp only [fit_cellAt0]
    exact nok_unsup _
theorem fit_unsafeAdd2 (ts : Array TypeId) (t : TypeId) (ptr : Option Addr) (y : Value) : Fit P (Builtin.unsafeAdd_ ts t #[.pointer ptr, y]) := by
  dsimp only [Builtin.unsafeAdd_]
  refine .bd (fit_asInt _) fun n => ?_
  cases ptr with
  | none =>
    dsimp only
    refine fit_ite (.bd (fit_unsup _) fun _ => ?_) ?_
    all_goals exact fit_ite (.bd (fit_unsup _) fun _ => fit_unsup _) (fit_unsup _)
  | some a =>
    dsimp only
    refine fit_ite (.bd (fit_viewAt _) fun o => fit_ite (.bd (fit_unsup _) fun _ => .pr _) (.pr _)) ?_
    exact fit_ite (.bd (fit_unsup _) fun _ => fit_addTail a n) (fit_addTail a n)
theorem fit_unsafeAdd (ts : Array TypeId) (t : TypeId) (x y : Value) : Fit P (Builtin.unsafeAdd_ ts t #[x, y]) := by
  cases x <;> first | exact fit_unsafeAdd2 _ _ _ _ | exact fit_stuck _
theorem fit_movedNumber (t : TypeId) (x y : Value) : Fit P (movedNumber t x y) := by
  unfold movedNumber
  refine .bd (fit_underlying t) fun d => ?_
  dsimp only
  have rest : ∀ n, Fit P (do
      let z ← behindNumber n
      match ← Builtin.unsafeAdd_ #[] t #[.pointer (some z.1), y] with
      | .pointer (some b) => asNumber b z.2
      | v => pure v) := fun n => by
    refine .bd (fit_behindNumber _) fun z => ?_
    refine .bd (fit_unsafeAdd _ _ _ _) fun v => ?_
    split
    · exact fit_asNumber _ _
    · exact .pr _
  cases x with
  | pointer p =>
    cases p with
    | none => exact fit_ite (.bd (fit_unsup _) fun _ => fit_unsafeAdd _ _ _ _) (fit_unsafeAdd _ _ _ _)
    | some a => exact fit_ite (.bd (fit_unsup _) fun _ => rest a) (rest a)
  | _ => exact fit_ite (.bd (fit_unsup _) fun _ => fit_unsafeAdd _ _ _ _) (fit_unsafeAdd _ _ _ _)
theorem fit_movedPointer (t : TypeId) (x y : Value) : Fit P (movedPointer t x y) := by
  unfold movedPointer
  dsimp only
  split
  · refine .bd (fit_numberAt _) fun o => ?_
    split
    · exact .bd (fit_unsup _) fun _ => fit_unsafeAdd _ _ _ _
    · exact fit_unsafeAdd _ _ _ _
  · exact fit_unsafeAdd _ _ _ _
theorem fit_twoPlaces (a b : Addr) : Fit P (Op.twoPlaces a b) := by
  unfold Op.twoPlaces
  refine fit_program_bind ?_
  have rest : Fit P (do pure (← byteOf a, ← byteOf b) : Sem (Nat × Nat)) := .bd (fit_byteOf _) fun _ => .bd (fit_byteOf _) fun _ => .pr _
  split
  · exact .bd (fit_unsup _) fun _ => rest
  · exact rest
theorem fit_addrSub (k : IntKind) (a b : Addr) : Fit P (Op.addrSub k a b) := .bd (fit_twoPlaces _ _) fun _ => .pr _
theorem fit_addrCmp (op : BinOp) (a b : Addr) : Fit P (Op.addrCmp op a b) := by
  unfold Op.addrCmp
  refine .bd (fit_twoPlaces _ _) fun z => ?_
  obtain ⟨x, y⟩ := z
  dsimp only
  split <;> first | exact .pr _ | exact fit_unsup _
theorem fit_addrMod (k : IntKind) (a : Addr) (n : Int) : Fit P (Op.addrMod k a n) := by
  unfold Op.addrMod
  refine .shape _ (fun s => ?_) (fun t n' => .inl rfl)
  cases s with
  | none => exact fit_unsup _
  | some s =>
    refine Fit.bd (s := typeInfo s.1) (fit_typeInfo _) fun i => ?_
    dsimp only
    have rest : Fit P (do pure (Value.int k ((← byteOf a) % n.toNat : Nat)) : Sem Value) := .bd (fit_byteOf _) fun _ => .pr _
    split
    · exact .bd (fit_unsup _) fun _ => rest
    · exact rest
theorem fit_equalIn (n : Nat) {t : TypeId} {d : TypeDesc} (hd : P.underlying t = some d) (hp : PlainD d) (x y : Value) : Fit P (Op.equalIn (n + 1) t x y) := by
  unfold Op.equalIn
  refine fit_underlying_bind hd ?_
  rcases hp with ⟨k, rfl⟩ | rfl | rfl
  · split <;> first | contradiction | skip
    all_goals first | exact .pr _ | exact fit_unsup _ | exact fit_stuck _ | skip
    · split
      · exact .pr _
      · exact fit_stuck _
    · refine .bd (fit_behindNumber _) fun a => .bd (fit_behindNumber _) fun b => ?_
      dsimp only
      refine fit_program_bind ?_
      split
      · exact .bd (fit_byteOf _) fun _ => .bd (fit_byteOf _) fun _ => .pr _
      · refine .bd (fit_typeInfo _) fun i => ?_
        split
        · split
          · exact .pr _
          · exact fit_unsup _
        · exact fit_unsup _
  · split <;> first | contradiction | skip
    all_goals first | exact .pr _ | exact fit_unsup _ | exact fit_stuck _ | skip
  · split <;> first | contradiction | skip
    all_goals first | exact .pr _ | exact fit_unsup _ | exact fit_stuck _ | skip
theorem fit_equal {t : TypeId} {d : TypeDesc} (hd : P.underlying t = some d) (hp : PlainD d) (x y : Value) : Fit P (Op.equal t x y) := fit_equalIn 9999 hd hp x y
theorem fit_eqGuardIn (n : Nat) {t : TypeId} {d : TypeDesc} (hd : P.underlying t = some d) (hp : PlainD d) (x y : Value) : Fit P (Op.eqGuardIn (n + 1) t x y) := by
  unfold Op.eqGuardIn
  refine fit_underlying_bind hd ?_
  rcases hp with ⟨k, rfl⟩ | rfl | rfl <;> (split <;> first | contradiction | exact .pr _)
theorem fit_eqGuard (op : BinOp) {t : TypeId} {d : TypeDesc} (hd : P.underlying t = some d) (hp : PlainD d) (x y : Operand) (a b : Value) : Fit P (eqGuard op t x y a b) := by
  have g : ∀ a b, Fit P (Op.eqGuardIn Op.maxDepth t a b) := fun a b => fit_eqGuardIn 9999 hd hp a b
  unfold eqGuard
  refine fit_ite (.pr _) ?_
  split
  · exact fit_ite (.pr _) (.bd (g _ _) fun b => fit_ite (fit_unsup _) (.pr _))
  · refine fit_program_bind ?_
    refine fit_program_bind ?_
    exact fit_ite (.pr _) (.bd (g _ _) fun b => fit_ite (fit_unsup _) (.pr _))
  · exact .pr _
theorem fit_binOp (op : BinOp) {t : TypeId} {d : TypeDesc} (hd : P.underlying t = some d) (hp : PlainD d) (x y : Value) : Fit P (binOp op t x y) := by
  unfold binOp
  split
  all_goals first
    | exact fit_shift _ _ _ _ _
    | exact fit_stringOp _ _ _
    | exact fit_unsup _
    | exact fit_stuck _
    | exact fit_movedNumber _ _ _
    | exact .bd (fit_equal hd hp _ _) fun _ => .pr _
    | exact .bd (fit_behindNumber _) fun _ => .bd (fit_behindNumber _) fun _ => fit_addrSub _ _ _
    | exact .bd (fit_behindNumber _) fun _ => .bd (fit_behindNumber _) fun _ => fit_addrCmp _ _ _
    | exact .bd (fit_behindNumber _) fun _ => fit_addrMod _ _ _
    | skip
  all_goals first
    | (split; exact fit_stuck _; split <;> first | exact fit_intArith _ _ _ _ | exact fit_intDiv _ _ _ _ | exact fit_intBits _ _ _ _ | exact fit_intCmp _ _ _ | exact fit_floatArith _ _ _ _ | exact fit_floatCmp _ _ _ _)
    | (split; exact fit_stuck _; exact fit_complexOp _ _ _ _ _ _)
    | skip
  all_goals
    refine .bd (fit_underlying _) fun d => ?_
    split
    · exact fit_movedPointer _ _ _
    · exact fit_movedNumber _ _ _
end
end

section

theorem sem_assoc {α β γ : Type} (s : Sem α) (f : α → Sem β) (g : β → Sem γ) : (s.bind f).bind g = s.bind fun a => (f a).bind g := by
  induction s with
  | pure a => rfl
  | halt h => rfl
  | _ => simp only [Sem.bind, *]
theorem sem_pure {α : Type} (s : Sem α) : s.bind Sem.pure = s := by
  induction s with
  | pure a => rfl
  | halt h => rfl
  | _ => simp only [Sem.bind, *]
instance : LawfulMonad Sem := LawfulMonad.mk' Sem (id_map := fun x => sem_pure x) (pure_bind := fun _ _ => rfl) (bind_assoc := fun x f g => sem_assoc x f g)

section
variable {P : Program}
theorem fit_floatToInt (s : FloatKind) (x : Nat) (d : IntKind) : Fit P (Conv.floatToInt s x d) := by
  unfold Conv.floatToInt
  dsimp only
  have any : Fit P (do pure (Value.int d (d.wrap (← choose (.floatToInt s x d)))) : Sem Value) := .bd (fit_choose _) fun _ => .pr _
  split
  · exact fit_ite (.pr _) any
  · exact any
theorem fit_forIn {α β : Type} (f : α → β → Sem (ForInStep β)) (hf : ∀ a b, Fit P (f a b)) : ∀ (l : List α) (b : β), Fit P (forIn l b f)
  | [], b => .pr _
  | x :: l, b => by
    rw [List.forIn_cons]
    refine .bd (hf _ _) fun s => ?_
    cases s with
    | done b => exact .pr _
    | yield b => exact fit_forIn f hf l b
theorem fit_bytesToString (x : Value) : Fit P (Conv.bytesToString x) := by
  unfold Conv.bytesToString
  split
  · exact .pr _
  · refine .bd (fit_loadCells _ _) fun cs => ?_
    refine .bd ?_ fun _ => .pr _
    rw [← Array.forIn_toList]
    refine fit_forIn _ (fun a b => ?_) _ _
    split
    · exact .pr _
    · exact .bd (fit_stuck _) fun _ => .pr _
  · exact fit_stuck _
/-- int to int, or a slice of bytes to a string. -/
def ConvOk (P : Program) (s d : TypeId) : Prop :=
  (∃ k k', P.underlying s = some (.int k) ∧ P.underlying d = some (.int k')) ∨ (∃ e, P.underlying s = some (.slice e) ∧ P.underlying d = some .string ∧ P.underlying e = some (.int .u8))
theorem fit_convert {s d : TypeId} (h : ConvOk P s d) (x : Value) : Fit P (convert s d x) := by
  unfold convert
  rcases h with ⟨k, k', h1, h2⟩ | ⟨e, h1, h2, h3⟩
  · refine fit_underlying_bind h1 (fit_underlying_bind h2 ?_)
    cases x <;> first | exact .pr _ | exact fit_unsup _ | exact fit_floatToInt _ _ _ | skip
    case pointer p => cases p <;> exact fit_unsup _
  · refine fit_underlying_bind h1 (fit_underlying_bind h2 ?_)
    have key : ∀ x, Fit P (do
        match ← underlying e with
        | .int .u8 => Conv.bytesToString x
        | .int .i32 => Conv.runesToString x
        | _ => stuck "Convert: a slice of what to string?") := fun x => fit_underlying_bind h3 (fit_bytesToString x)
    cases x <;> first | exact key _ | exact .pr _
theorem fit_unary (op : UnOp) (x : Value) : Fit P (Op.unary op x) := by
  unfold Op.unary
  split <;> first | exact fit_intArith _ _ _ _ | exact fit_intBits _ _ _ _ | exact .pr _ | exact fit_unsup _ | exact fit_stuck _
theorem fit_box (t : TypeId) (v : Value) : Fit P (Instr.box t v) := .bd (fit_newVar _ _) fun _ => .pr _
theorem fit_mapM {α β : Type} (f : α → Sem β) (hf : ∀ a, Fit P (f a)) (l : Array α) : Fit P (l.mapM f) := by
  rw [Array.mapM_eq_mapM_toList]
  refine .mp ?_
  have key : ∀ l : List α, Fit P (l.mapM f) := fun l => by
    induction l with
    | nil => exact .pr _
    | cons x l ih =>
      rw [List.mapM_cons]
      exact .bd (hf _) fun _ => .bd ih fun _ => .pr _
  exact key _
theorem fit_build (t : TypeId) (ps : Array (Nat × Value)) : Fit P (Instr.build t ps) := by
  unfold Instr.build
  refine .bd (fit_zeroValue _) fun z => .bd (fit_underlying _) fun d => ?_
  split
  · refine .bd (fit_mapM _ (fun a => .bd (fit_sizeOf _) fun _ => .pr _) _) fun places => ?_
    split
    · exact .pr _
    · exact fit_stuck _
  · refine .bd (fit_sizeOf _) fun n => ?_
    split
    · exact .pr _
    · exact fit_stuck _
  · exact fit_stuck _
theorem fit_buildSlice (t : TypeId) (n : Nat) (ps : Array (Nat × Value)) : Fit P (Instr.buildSlice t n ps) := by
  unfold Instr.buildSlice
  refine .bd (fit_underlying _) fun d => ?_
  split
  · rename_i elem
    refine .bd (fit_sizeOf _) fun sz => ?_
    dsimp only
    have rest : ∀ zero : Array Value, Fit P (match Instr.fill (fun i => some (i * sz, sz)) ((Array.range (n * sz)).map (zero[· % zero.size]!)) ps.toList with
        | some cells => do pure (Value.slice (some (← newRow elem cells)) n n)
        | _ => stuck "buildSlice: a part of the wrong size") := fun zero => by
      split
      · exact .bd (fit_newRow _ _) fun _ => .pr _
      · exact fit_stuck _
    refine fit_ite (.bd (fit_unsup _) fun _ => fit_ite (.bd (.pr _) fun z => rest z) (.bd (fit_zeroValue _) fun z => .bd (.pr _) fun z => rest z)) (fit_ite (.bd (.pr _) fun z => rest z) (.bd (fit_zeroValue _) fun z => .bd (.pr _) fun z => rest z))
  · exact fit_stuck _
theorem fit_alloc (t : TypeId) (b : Bool) (v : Value) : Fit P (Instr.alloc t b v) := by
  unfold Instr.alloc
  refine .bd (fit_zeroValue _) fun z => ?_
  split
  · exact .bd (fit_storeVar _ _ _) fun _ => .pr _
  · exact .bd (fit_newVar _ _) fun _ => .pr _
theorem fit_loadAt (t : TypeId) (v : Value) : Fit P (Instr.loadAt t v) := .bd (fit_sureAddr _) fun _ => fit_loadVar _ _
theorem fit_storeAt (t : TypeId) (a v : Value) : Fit P (Instr.storeAt t a v) := .bd (fit_sureAddr _) fun _ => fit_storeVar _ _ _
theorem fit_fieldAt (s : TypeId) (a : Value) (f : Nat) : Fit P (Instr.fieldAt s a f) := by
  unfold Instr.fieldAt
  refine .bd (fit_underlying _) fun d => ?_
  split
  · split
    · exact .bd (fit_sureAddr _) fun _ => .bd (fit_fieldPlace _ _) fun _ => .pr _
    · exact fit_stuck _
  · exact fit_stuck _
theorem fit_field (t : TypeId) (x : Value) (f : Nat) : Fit P (Instr.field t x f) := by
  unfold Instr.field
  refine .bd (fit_underlying _) fun d => ?_
  split
  · split
    · exact .bd (fit_asAgg _) fun _ => fit_part _ _ _
    · exact fit_stuck _
  · exact fit_stuck _
theorem fit_index (t : TypeId) (x i : Value) : Fit P (Instr.index t x i) := by
  unfold Instr.index
  refine .bd (fit_asIntOf _) fun z => .bd (fit_underlying _) fun d => ?_
  split
  · exact fit_ite (.bd (fit_sizeOf _) fun _ => fit_part _ _ _) (fit_boundsPanic _ _ _ _)
  · split
    · exact .pr _
    · exact fit_boundsPanic _ _ _ _
  · exact fit_stuck _
theorem fit_indexAt (t : TypeId) (x i : Value) : Fit P (Instr.indexAt t x i) := by
  unfold Instr.indexAt
  refine .bd (fit_asIntOf _) fun z => .bd (fit_underlying _) fun d => ?_
  dsimp only
  have rest : ∀ y : Option Addr × Nat × TypeId, Fit P (do
      let tiny := y.2.1 ≤ 1 && (match ← underlying t with | .array .. => true | _ => false)
      match y.1 with
      | some a =>
        if 0 ≤ z.2 ∧ z.2 < y.2.1 then pure (Value.pointer (some (a.add (z.2.toNat * (← sizeOf y.2.2)))))
        else if tiny then unsupported (.noEntry "op/indexAddr.an index out of range at an array of length 0 or 1 (ledger 616)")
        else boundsPanic z.1 z.2 y.2.1 .index
      | none => boundsPanic z.1 z.2 0 .index) := fun y => by
    refine .bd (fit_underlying _) fun d => ?_
    dsimp only
    split
    · exact fit_ite (.bd (fit_sizeOf _) fun _ => .pr _) (fit_ite (fit_unsup _) (fit_boundsPanic _ _ _ _))
    · exact fit_boundsPanic _ _ _ _
  split
  · exact .bd (fit_sureAddr _) fun a => .bd (.pr _) fun y => rest y
  · exact .bd (.pr _) fun y => rest y
  · exact .bd (fit_stuck _) fun y => rest y
theorem fit_sliceBound (x : Value) (y : Nat) (c : BoundsCode) : Fit P (Instr.sliceBound x y c) := .bd (fit_asIntOf _) fun z => fit_ite (.pr _) (fit_boundsPanic _ _ _ _)
theorem fit_sliceBounds (b : Bool) (n c : Nat) (lo hi mx : Option Value) : Fit P (Instr.sliceBounds b n c lo hi mx) := by
  unfold Instr.sliceBounds
  cases mx <;> cases hi <;> cases lo
  all_goals repeat' with_reducible first | refine .bd ?_ fun _ => ?_ | exact .pr _ | exact fit_sliceBound _ _ _ | exact fit_stuck _
theorem fit_slice (t : TypeId) (x : Value) (lo hi mx : Option Value) : Fit P (Instr.slice t x lo hi mx) := by
  unfold Instr.slice
  refine .bd (fit_underlying _) fun d => ?_
  split
  · exact fit_ite (.bd (fit_stuck _) fun _ => .bd (fit_sliceBounds _ _ _ _ _ _) fun _ => .pr _) (.bd (fit_sliceBounds _ _ _ _ _ _) fun _ => .pr _)
  · exact .bd (fit_sliceBounds _ _ _ _ _ _) fun _ => .bd (fit_sizeOf _) fun _ => .pr _
  · refine .bd (fit_asAddr _) fun _ => .bd (fit_underlying _) fun d => ?_
    split
    · exact .bd (fit_sliceBounds _ _ _ _ _ _) fun _ => .bd (fit_sizeOf _) fun _ => .pr _
    · exact fit_stuck _
  · exact fit_stuck _
theorem fit_sliceAt (t : TypeId) (x : Value) (lo hi mx : Option Value) : Fit P (Instr.sliceAt t x lo hi mx) := by
  unfold Instr.sliceAt
  refine .bd (fit_underlying _) fun d => ?_
  split
  · exact .bd (fit_sureAddr _) fun _ => .bd (fit_sliceBounds _ _ _ _ _ _) fun _ => .bd (fit_sizeOf _) fun _ => .pr _
  · exact fit_slice _ _ _ _ _
theorem fit_extract (x : Value) (i : Nat) : Fit P (Instr.extract x i) := by
  unfold Instr.extract
  split
  · split
    · exact .pr _
    · exact fit_stuck _
  · exact fit_stuck _
theorem fit_makeInterface (t : TypeId) (x : Value) : Fit P (Instr.makeInterface t x) := by
  unfold Instr.makeInterface
  refine .bd (fit_underlying _) fun d => ?_
  split
  · exact fit_stuck _
  · exact .pr _
theorem mld_panicnil : Mld P Instr.panicnil := by
  unfold Instr.panicnil
  refine Mld.bind (s := sys .env) (fun u h u' e => by cases e) fun r => ?_
  split
  · dsimp only
    exact (Fit.bd fit_program fun _ => .pr _).mild
  · exact (fit_stuck _).mild
theorem nok_panicInstr (x : Value) : Nok P (Instr.panic x) := by
  unfold Instr.panic
  split
  · exact nok_panic _
  · refine Nok.b3 mld_panicnil fun n => ?_
    split
    · exact nok_panic _
    · exact nok_runtimePanic _
  · exact Nok.halt trivial
theorem fit_followBlind : ∀ (l : List FieldStep) (t : TypeId) (x : Option Value), Fit P (followBlind l t x)
  | [], t, x => .pr _
  | s :: l, t, x => by
    unfold followBlind
    refine .bd (fit_underlying _) fun d => ?_
    split
    · split
      · split <;> first | exact .pr _ | exact fit_stuck _ | exact fit_followBlind l _ _ | exact .bd (fit_part _ _ _) fun _ => fit_followBlind l _ _
      · exact fit_stuck _
    · exact fit_stuck _
theorem fit_nilAhead : ∀ (n : Nat) (t : TypeId) (v : Value) (m : String), Fit P (nilAhead n t v m)
  | 0, t, v, m => .pr _
  | n + 1, t, v, m => by
    unfold nilAhead
    refine .bd (fit_typeInfo _) fun i => ?_
    split
    · refine .bd (fit_followBlind _ _ _) fun r => ?_
      split
      · exact .pr _
      · split <;> first | exact .pr _ | exact fit_stuck _ | exact fit_nilAhead n _ _ _ | skip
        refine .bd (fit_underlying _) fun d => ?_
        split <;> exact .pr _
    · exact fit_stuck _
theorem fit_panicInstr (x : Value) : Fit P (Instr.panic x) := .nok (nok_panicInstr x)
end
end

section

section
variable {P : Program}
theorem fit_makeSlice (t : TypeId) (n c : Value) : Fit P (Instr.makeSlice t n c) := by
  unfold Instr.makeSlice
  refine .bd (fit_underlying _) fun d => ?_
  split
  · rename_i elem
    refine .bd (fit_asInt _) fun l => .bd (fit_asInt _) fun c => .bd (fit_typeInfo _) fun i => ?_
    dsimp only
    have tail : Fit P (do
        askRoom ((IntKind.i64.wrap c).toNat * i.bytes)
        let sz ← sizeOf elem
        let n := (IntKind.i64.wrap c).toNat * sz
        let zero ← if n = 0 then pure #[] else do pure (← zeroValue elem).cells
        let a ← newRow elem ((Array.range n).map (zero[· % zero.size]!))
        pure (Value.slice (some a) (IntKind.i64.wrap l).toNat (IntKind.i64.wrap c).toNat)) := by
      refine .bd (fit_askRoom _) fun _ => .bd (fit_sizeOf _) fun sz => ?_
      dsimp only
      exact fit_ite (.bd (.pr _) fun z => .bd (fit_newRow _ _) fun _ => .pr _) (.bd (fit_zeroValue _) fun z => .bd (.pr _) fun z => .bd (fit_newRow _ _) fun _ => .pr _)
    refine fit_ite ?_ tail
    refine fit_ite (.bd (fit_runtimePanic _) fun _ => tail) (fit_ite (.bd (fit_runtimePanic _) fun _ => tail) ?_)
    exact .bd (fit_choose _) fun _ => .bd (fit_runtimePanic _) fun _ => tail
  · exact fit_stuck _
theorem fit_lenOf (v : Value) : Fit P (Builtin.lenOf v) := by
  unfold Builtin.lenOf
  split <;> first | exact .pr _ | exact fit_stuck _
theorem fit_firstCells (sz n : Nat) (v : Value) : Fit P (Builtin.firstCells sz n v) := by
  unfold Builtin.firstCells
  split <;> first | exact fit_loadCells _ _ | exact .pr _ | exact fit_stuck _
theorem fit_len (ts : Array TypeId) (t : TypeId) (args : Array Value) : Fit P (Builtin.len_ ts t args) := by
  unfold Builtin.len_
  split
  · refine .bd (fit_underlying _) fun d => ?_
    split <;> first | exact .pr _ | exact fit_stuck _ | skip
    · refine .bd (fit_underlying _) fun d => ?_
      split <;> first | exact .pr _ | exact fit_stuck _
    · refine .bd (fit_getObj _) fun o => ?_
      split <;> first | exact .pr _ | exact fit_stuck _
    · refine .bd (fit_getObj _) fun o => ?_
      split <;> first | exact .pr _ | exact fit_stuck _
  · exact fit_stuck _
theorem fit_cap (ts : Array TypeId) (t : TypeId) (args : Array Value) : Fit P (Builtin.cap_ ts t args) := by
  unfold Builtin.cap_
  split
  · refine .bd (fit_underlying _) fun d => ?_
    split <;> first | exact .pr _ | exact fit_stuck _ | skip
    all_goals first
      | (refine .bd (fit_underlying _) fun d => ?_; split <;> first | exact .pr _ | exact fit_stuck _)
      | (refine .bd (fit_getObj _) fun o => ?_; split <;> first | exact .pr _ | exact fit_stuck _)
  · exact fit_stuck _
theorem nok_ite {α : Type} {c : Prop} [Decidable c] {a b : Sem α} (h1 : Nok P a) (h2 : Nok P b) : Nok P (if c then a else b) := by split <;> assumption
theorem mld_frozen (a : Addr) : Mld P (frozen a) := (fit_frozen a).mild
theorem mld_shape (r : Nat) : Mld P (shape r) := fun u h u' e => by cases e
theorem Mld.b {α β : Type} {s : Sem α} {f : α → Sem β} (h : Mld P s) (hf : ∀ a, Mld P (f a)) : Mld P (s >>= f) := h.bind hf
theorem Mld.p {α : Type} (a : α) : Mld P (pure a : Sem α) := (Fit.pr a).mild
theorem Mld.ite {α : Type} {c : Prop} [Decidable c] {a b : Sem α} (h1 : Mld P a) (h2 : Mld P b) : Mld P (if c then a else b) := by split <;> assumption
theorem mld_holds (a : Addr) (n : Nat) : Mld P (Builtin.holdsCells a n) := by
  unfold Builtin.holdsCells
  refine .b (mld_shape _) fun s => ?_
  split <;> exact .p _
theorem mld_mayShare (size sLen n : Nat) (base : Option Addr) (x : Value) : Mld P (Builtin.mayShare size sLen n base x) := by
  unfold Builtin.mayShare
  dsimp only
  repeat' with_reducible first | refine .b ?_ fun _ => ?_ | refine Mld.ite ?_ ?_ | exact .p _ | exact mld_holds _ _ | exact mld_frozen _ | split
theorem fit_mayEnd {α : Type} (z : Bool) (e : RuntimeError) (size sLen n : Nat) (base : Option Addr) (x : Value) (u : Unsupported) : Fit P (if z = true then (runtimePanic e : Sem α) else do
    let b ← Builtin.mayShare size sLen n base x
    if (!b) = true then do
      mark Mark.noRoom
      unsupported u
    else unsupported u) :=
  .nok (nok_ite (nok_runtimePanic _) (Nok.b3 (mld_mayShare _ _ _ _ _) fun _ => nok_ite (Nok.b2 fit_noRoom fun _ => nok_unsup _) (nok_unsup _)))
set_option maxHeartbeats 2000000 in
theorem fit_append (ts : Array TypeId) (t : TypeId) (args : Array Value) : Fit P (Builtin.append_ ts t args) := by
  unfold Builtin.append_
  split
  · refine .bd (fit_underlying _) fun d => ?_
    split
    · split
      · refine .bd (fit_sizeOf _) fun size => ?_
        dsimp only
        split
        all_goals
          repeat' with_reducible first | refine .bd (fit_mayEnd _ _ _ _ _ _ _ _) fun _ => ?_ | refine .bd ?_ fun _ => ?_ | refine fit_ite ?_ ?_ | exact .pr _ | exact fit_stuck _ | exact fit_storeCells _ _ _ | exact fit_firstCells _ _ _ | exact fit_zeroValue _ | exact fit_typeInfo _ | exact fit_askRoom _ | exact fit_runtimePanic _ | exact fit_choose _ | exact fit_newRow _ _ | exact fit_asInt _ | exact fit_underlying _ | exact fit_lenOf _ | split
      · exact fit_stuck _
    · exact fit_stuck _
  · exact fit_stuck _
end
end
end Go.Proofs.YtnifgfnhcjhodaaDoor
