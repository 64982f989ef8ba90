/- XPW: several texts in one. Conditions: each lemma's own. -/
import Derived.Test.YtnifgfnhcjhodaaRows
import Derived.WalkKit
import Derived.WalkSpells
import Derived.WalkLawsBesides
import Derived.Lib.Hide
import Derived.Deep.QuietTactic
import Derived.BigQuiet
import Derived.Deep.DeepCutAuto
import Derived.Maps.AppendAt

import Derived.Laws.AppendOwnNone

import Derived.Deep.RegionLaw
namespace Go.Proofs.Ytnifgfnhcjhodaa
open Go.RowKit
set_option linter.unusedVariables false

/-- What a call leaves: every old block but (at most) block r is as it was. -/
def Ext (r : Option Nat) (w w' : World) : Prop := w.grownBy w' r

theorem Ext.refl (r : Option Nat) (w : World) : Ext r w w := World.grownBy.refl w r
theorem Ext.size {r : Option Nat} {w w' : World} (h : Ext r w w') : w.heap.size ≤ w'.heap.size := World.grownBy.size h
theorem Ext.trans {r : Option Nat} {a b c : World} (h : Ext r a b) (k : Ext r b c) : Ext r a c :=
  ⟨(World.grownBy.os k).trans (World.grownBy.os h), (World.grownBy.tape k).trans (World.grownBy.tape h), (World.grownBy.output k).trans (World.grownBy.output h),
   Nat.le_trans h.size k.size, fun i hi hr => (World.grownBy.block k i (Nat.lt_of_lt_of_le hi h.size) hr).trans (World.grownBy.block h i hi hr)⟩
theorem Ext.weak {r : Option Nat} {w w' : World} (h : Ext none w w') : Ext r w w' :=
  ⟨World.grownBy.os h, World.grownBy.tape h, World.grownBy.output h, h.size, fun i hi _ => World.grownBy.block h i hi (by simp)⟩
theorem Ext.alloc {r : Option Nat} {a w : World} (h : Ext r a w) (o : Obj) : Ext r a (w.alloc o) := h.trans (World.grownBy_alloc w o r)
theorem Ext.drew {r : Option Nat} {a w : World} (h : Ext r a w) : Ext r a w.drew := h.trans
  ⟨rfl, rfl, rfl, Nat.le_refl _, fun _ _ _ => rfl⟩
theorem Ext.drewN {r : Option Nat} {a w : World} (h : Ext r a w) (n : Nat) : Ext r a (w.drewN n) := h.trans
  ⟨rfl, rfl, rfl, Nat.le_refl _, fun _ _ _ => rfl⟩
theorem Ext.set {r : Option Nat} {a w : World} (h : Ext r a w) {p : Addr} (hp : a.heap.size ≤ p.block ∨ some p.block = r) (u : Value) : Ext r a (w.setCell p u) := by
  have hg : a.grownBy w r := h
  refine ⟨hg.os, hg.tape, hg.output, by simpa [World.setCell] using h.size, fun i hi hr => ?_⟩
  · refine (Below.heap_setCell w p u i ?_).trans (World.grownBy.block h i hi hr)
    rintro rfl
    rcases hp with hp | hp
    · omega
    · exact hr hp
theorem Ext.grown {r row : Option Nat} {a w w' : World} (h : Ext r a w) (hg : w.grownBy w' row) (hr : ∀ k, row = some k → a.heap.size ≤ k ∨ some k = r) : Ext r a w' :=
  ⟨hg.os.trans (World.grownBy.os h), hg.tape.trans (World.grownBy.tape h), hg.output.trans (World.grownBy.output h), Nat.le_trans h.size hg.size,
   fun i hi hne => (hg.block i (Nat.lt_of_lt_of_le hi h.size) (fun e => by
      rcases hr i e.symm with h1 | h1
      · omega
      · exact hne h1)).trans (World.grownBy.block h i hi hne)⟩
theorem Ext.draws (r : Option Nat) (w : World) (n : Nat) : Ext r w (w.drewN n) := (Ext.refl r w).drewN n
/-- A call that only reads (it may draw). -/
def Dr (w w' : World) : Prop := ∃ q, w' = w.drewN q
theorem Dr.refl (w : World) : Dr w w := ⟨0, rfl⟩
theorem Dr.trans {a b c : World} (h : Dr a b) (k : Dr b c) : Dr a c := by
  obtain ⟨q, rfl⟩ := h; obtain ⟨r, rfl⟩ := k; exact ⟨_, World.drewN_drewN _ _ _⟩
theorem Dr.drewN {a b : World} (h : Dr a b) (n : Nat) : Dr a (b.drewN n) := h.trans ⟨n, rfl⟩
theorem Dr.ext {r : Option Nat} {w w' : World} (h : Dr w w') : Ext r w w' := by obtain ⟨q, rfl⟩ := h; exact Ext.draws r w q
theorem quietR {P : Program} {f : FuncId} {args : Array Value} {w : World} {n : Nat} {v : Value}
    (h : Calls P f args (w.drewN n) fun e w' => e = .returned v ∧ Dr (w.drewN n) w') : Calls P f args (w.drewN n) fun e w'' => e = .returned v ∧ ∃ m, w'' = w.drewN m :=
  Calls.quiet_of h
theorem quietS {P : Program} {f : FuncId} {args : Array Value} {w : World} {n : Nat} {v : Value}
    (h : Calls P f args (w.drewN n) fun e w' => e = .returned v ∧ w.drewN n = w') : Calls P f args (w.drewN n) fun e w'' => e = .returned v ∧ ∃ m, w'' = w.drewN m :=
  Calls.quiet_of_same (h.mono fun _ _ ⟨a, b⟩ => ⟨a, b.symm⟩)
theorem Ext.loc {r : Nat} {a b c : World} (h : Ext none a b) (k : Ext (some r) b c) (hr : a.heap.size ≤ r) : Ext none a c :=
  Ext.grown h k (fun j hj => .inl (by cases hj; exact hr))
theorem Ext.below {w w' : World} (h : Ext none w w') : Below w.heap.size w w' :=
  ⟨World.grownBy.os h, World.grownBy.tape h, World.grownBy.output h, h.size, fun i hi => World.grownBy.block h i hi (by simp)⟩
theorem Ext.blk {r : Option Nat} {w w' : World} (h : Ext r w w') {k : Nat} {o : Obj} (hk : w.heap[k]? = some o) (hr : some k ≠ r) : w'.heap[k]? = some o :=
  (World.grownBy.block h k (Array.getElem?_eq_some_iff.1 hk).1 hr).trans hk
theorem Ext.cell {w w' : World} (h : Ext none w w') {p : Addr} {v : Value} (hc : w.cell? p = some v) : w'.cell? p = some v :=
  World.grownBy.cell h hc (by simp)
theorem Ext.frozen {w w' : World} (h : Ext none w w') {p : Addr} (hp : p.block < w.heap.size) : w'.frozen? p = w.frozen? p :=
  World.frozen?_of_block (World.grownBy.block h p.block hp (by simp))

/-- The slice value '.slice a n c' holds the cells vs. -/
def At (w : World) (a : Option Addr) (n : Nat) (vs : List Value) : Prop :=
  vs.length = n ∧ n ≤ maxLen ∧ ∀ k, k < n → ∃ b off, a = some ⟨b, off, none⟩ ∧ w.cell? ⟨b, off + k, none⟩ = vs[k]?

theorem At.len {w : World} {a : Option Addr} {n : Nat} {vs : List Value} (h : At w a n vs) : vs.length = n := h.1
theorem At.max {w : World} {a : Option Addr} {n : Nat} {vs : List Value} (h : At w a n vs) : n ≤ 9223372036854775807 := h.2.1
theorem At.ext {w w' : World} {a : Option Addr} {n : Nat} {vs : List Value} (h : At w a n vs) (hx : Ext none w w') : At w' a n vs := by
  refine ⟨h.1, h.2.1, fun k hk => ?_⟩
  obtain ⟨b, off, rfl, hc⟩ := h.2.2 k hk
  have hl : k < vs.length := by rw [h.1]; exact hk
  rw [List.getElem?_eq_getElem hl] at hc
  exact ⟨b, off, rfl, by rw [List.getElem?_eq_getElem hl]; exact hx.cell hc⟩
theorem At.cellSome {w : World} {a : Option Addr} {n : Nat} {vs : List Value} (h : At w a n vs) {k : Nat} (hk : k < n) : ∃ b off, a = some ⟨b, off, none⟩ ∧ ∃ u, vs[k]? = some u ∧ w.cell? ⟨b, off + k, none⟩ = some u := by
  obtain ⟨b, off, ha, hc⟩ := h.2.2 k hk
  have hl : k < vs.length := by rw [h.1]; exact hk
  exact ⟨b, off, ha, vs[k], List.getElem?_eq_getElem hl, by rw [hc, List.getElem?_eq_getElem hl]⟩
theorem At.nil (w : World) (a : Option Addr) : At w a 0 [] := ⟨rfl, by simp [maxLen], fun k hk => absurd hk (by omega)⟩

/-- A slice of int. -/
def Ints (w : World) (a : Option Addr) (n : Nat) (xs : List Int) : Prop := At w a n (xs.map (Value.int .i64))
theorem Ints.len {w : World} {a : Option Addr} {n : Nat} {xs : List Int} (h : Ints w a n xs) : xs.length = n := by simpa using h.1
theorem Ints.max {w : World} {a : Option Addr} {n : Nat} {xs : List Int} (h : Ints w a n xs) : n ≤ 9223372036854775807 := At.max h
theorem Ints.ext {w w' : World} {a : Option Addr} {n : Nat} {xs : List Int} (h : Ints w a n xs) (hx : Ext none w w') : Ints w' a n xs := At.ext h hx
theorem Ints.nil (w : World) (a : Option Addr) : Ints w a 0 [] := At.nil w a
theorem Ints.cell {w : World} {a : Option Addr} {n : Nat} {xs : List Int} (h : Ints w a n xs) {k : Nat} (hk : k < n) :
    ∃ b off, a = some ⟨b, off, none⟩ ∧ w.cell? ⟨b, off + k, none⟩ = some (.int .i64 (xs.getD k 0)) := by
  obtain ⟨b, off, ha, hc⟩ := h.2.2 k hk
  have hl : k < xs.length := by rw [h.len]; exact hk
  exact ⟨b, off, ha, by rw [hc]; simp [List.getD, hl]⟩
/-- With the address known. -/
theorem Ints.cellAt {w : World} {b off n : Nat} {xs : List Int} (h : Ints w (some ⟨b, off, none⟩) n xs) {k : Nat} (hk : k < n) :
    w.cell? ⟨b, off + k, none⟩ = some (.int .i64 (xs.getD k 0)) := by
  obtain ⟨b', off', ha, hc⟩ := h.cell hk
  simp only [Option.some.injEq, Addr.mk.injEq, and_true] at ha
  obtain ⟨rfl, rfl⟩ := ha
  exact hc

/-- The slice '.slice a n c' of the call's own: its row lies from block B on. -/
def Own (w : World) (B e : Nat) (a : Option Addr) (n c : Nat) (vs : List Value) : Prop := w.ownsRow B e 1 (.slice a n c) n vs

theorem Own.at_ {w : World} {B e : Nat} {a : Option Addr} {n c : Nat} {vs : List Value} (h : Own w B e a n c vs) : At w a n vs := by
  obtain ⟨hl, h⟩ := h
  rcases h with ⟨hv, rfl⟩ | ⟨g, cap, cur, hv, hB, hg, hn, hc, hs, ht⟩
  · exact ⟨by simpa using hl, by simp [maxLen], fun k hk => absurd hk (by omega)⟩
  · injection hv with ha _ hcap
    subst ha hcap
    refine ⟨by simpa using hl, by omega, fun k hk => ⟨g, 0, rfl, ?_⟩⟩
    simp only [Nat.mul_one] at ht hs
    rw [cell_of_row w g (0 + k) cur e (0, 0) hg, ← ht, List.getElem?_take, if_pos hk]
    simp
theorem Own.len {w : World} {B e : Nat} {a : Option Addr} {n c : Nat} {vs : List Value} (h : Own w B e a n c vs) : vs.length = n := h.at_.len
theorem Own.mono {w : World} {B B' e : Nat} {a : Option Addr} {n c : Nat} {vs : List Value} (h : Own w B e a n c vs) (hB : B' ≤ B) : Own w B' e a n c vs := by
  refine ⟨h.1, ?_⟩
  rcases h.2 with hv | ⟨g, cap, cur, hv, hg, r⟩
  · exact .inl hv
  · exact .inr ⟨g, cap, cur, hv, Nat.le_trans hB hg, r⟩
theorem Own.ext {w w' : World} {B e : Nat} {a : Option Addr} {n c : Nat} {vs : List Value} {r : Option Nat} (h : Own w B e a n c vs) (hx : Ext r w w') (hr : ∀ k, r = some k → k < B) : Own w' B e a n c vs := by
  refine World.ownsRow.kept h hx ?_
  cases hv : (Value.slice a n c).ownBlock with
  | none => exact .inl rfl
  | some k =>
    refine .inr fun he => ?_
    have h1 := (World.ownsRow.lt h k hv).1
    have h2 := hr k he.symm
    omega
theorem Own.ext0 {w w' : World} {B e : Nat} {a : Option Addr} {n c : Nat} {vs : List Value} (h : Own w B e a n c vs) (hx : Ext none w w') : Own w' B e a n c vs := h.ext hx (by simp)
theorem Own.nil (w : World) (B e : Nat) : Own w B e none 0 0 [] := World.ownsRow_nil w B e 1
theorem Own.alloc {w : World} {B e : Nat} {a : Option Addr} {n c : Nat} {vs : List Value} (h : Own w B e a n c vs) (o : Obj) : Own (w.alloc o) B e a n c vs := World.ownsRow.alloc h o

def OwnI (w : World) (B : Nat) (a : Option Addr) (n c : Nat) (xs : List Int) : Prop := Own w B 3 a n c (xs.map (Value.int .i64))
theorem OwnI.ints {w : World} {B : Nat} {a : Option Addr} {n c : Nat} {xs : List Int} (h : OwnI w B a n c xs) : Ints w a n xs := Own.at_ h
theorem OwnI.len {w : World} {B : Nat} {a : Option Addr} {n c : Nat} {xs : List Int} (h : OwnI w B a n c xs) : xs.length = n := h.ints.len
theorem OwnI.mono {w : World} {B B' : Nat} {a : Option Addr} {n c : Nat} {xs : List Int} (h : OwnI w B a n c xs) (hB : B' ≤ B) : OwnI w B' a n c xs := Own.mono h hB
theorem OwnI.ext {w w' : World} {B : Nat} {a : Option Addr} {n c : Nat} {xs : List Int} {r : Option Nat} (h : OwnI w B a n c xs) (hx : Ext r w w') (hr : ∀ k, r = some k → k < B) : OwnI w' B a n c xs := Own.ext h hx hr
theorem OwnI.ext0 {w w' : World} {B : Nat} {a : Option Addr} {n c : Nat} {xs : List Int} (h : OwnI w B a n c xs) (hx : Ext none w w') : OwnI w' B a n c xs := Own.ext0 h hx
theorem OwnI.nil (w : World) (B : Nat) : OwnI w B none 0 0 [] := Own.nil w B _

/-- '[]int{}'. -/
theorem OwnI.made (w : World) : OwnI (w.alloc (.cells #[] 3)) w.heap.size (some ⟨w.heap.size, 0, none⟩) 0 0 [] := World.ownsRow_made w #[] 0 (Nat.le_refl _) (by simp [maxLen]) rfl
/-- What a function that returns a slice of int in new memory leaves. -/
def RI (w : World) (r : Option Nat) (xs : List Int) (e : Ending) (w' : World) : Prop :=
  ∃ a n c, e = .returned (.slice a n c) ∧ OwnI w' w.heap.size a n c xs ∧ Ext r w w'

theorem intInfo : (Try.prog.info? 3).map (fun i => (i.zero, i.size, i.bytes)) = some (some (.int .i64 0), 1, 8) := by kernel_rfl

/-- 'out = append(out, x)', out a row of the call's own, one element; and where the row lies then. -/
theorem append1_at {P : Program} (w : World) {ops : Array Oper} {rest : List Oper} {o : Oper} {a : Act} {Q : Exit → Act → World → Prop} (hgd : o.guard = none) (s x : Operand) (t : TypeId)
    (ho : o.op = .call { callee := .builtin .append, args := #[s, x], argTypes := #[t, t] })
    (B e : Nat) (i : TypeInfo) (z : Value) (bytes : Nat) (ht : P.underlying t = some (.slice e)) (hi : P.info? e = some i) (hz : i.zero = some z)
    (hsize : i.size = 1) (hby : i.bytes = bytes) (hzs : z.cells.size = 1)
    (ad : Option Addr) (n c : Nat) (vs : List Value) (hs : a.eval s = .slice ad n c) (hown : Own w B e ad n c vs)
    (u : Value) (hx : a.eval x = .slice (some ⟨w.heap.size, 0, none⟩) 1 1) (h1 : u.oneCell' = true) (hlen : n + 1 ≤ 1000000) (hb : bytes ≤ 1000) (hB : B ≤ w.heap.size)
    (h : ∀ g c' w', Own w' B e (some ⟨g, 0, none⟩) (n + 1) c' (vs ++ [u]) → w.grownBy w' (Value.slice ad n c).ownBlock → (some g = (Value.slice ad n c).ownBlock ∨ g = w.heap.size + 1) →
      wpList P ops Q rest (a.put o.dst (.slice (some ⟨g, 0, none⟩) (n + 1) c')) w') :
    wpList P ops Q (o :: rest) a (w.alloc (.cells #[u] e)) := by
  have hmul : (n + 1) * bytes ≤ 1000000 * 1000 := Nat.mul_le_mul hlen hb
  refine wpList_append_own_at _ hgd s x t ho B e i z 1 bytes ht hi hz hsize hby hzs (by decide) _ n vs hs (World.ownsRow.alloc hown _) ⟨w.heap.size, 0, none⟩ 1 1 [u] hx rfl (cell_one_new _ _ _)
    (by intro v hv; simp at hv; subst hv; exact h1) (by simp only [maxLen]; omega) (by omega) (by simp; omega) ?_
  intro v' w' hown' hg _ hat
  obtain ⟨g, cap, hv⟩ : ∃ g cap, v' = .slice (some ⟨g, 0, none⟩) (n + 1) cap := by
    rcases hown'.2 with ⟨_, h0⟩ | ⟨g, cap, _, rfl, _⟩
    · omega
    · exact ⟨g, cap, rfl⟩
  subst hv
  have h0 := World.grownBy_alloc w (.cells #[u] e) (Value.slice ad n c).ownBlock
  refine h g cap w' hown' ⟨hg.os.trans h0.os, hg.tape.trans h0.tape, hg.output.trans h0.output, Nat.le_trans h0.size hg.size, fun i hi hne => (hg.block i (Nat.lt_of_lt_of_le hi h0.size) hne).trans (h0.block i hi hne)⟩ ?_
  rcases hat with e | e
  · exact .inl e
  · exact .inr (by simpa [Value.ownBlock] using e)

/-- 'out = append(out, x)', out a row of the call's own, one element. -/
theorem append1 {P : Program} (w : World) {ops : Array Oper} {rest : List Oper} {o : Oper} {a : Act} {Q : Exit → Act → World → Prop} (hgd : o.guard = none) (s x : Operand) (t : TypeId)
    (ho : o.op = .call { callee := .builtin .append, args := #[s, x], argTypes := #[t, t] })
    (B e : Nat) (i : TypeInfo) (z : Value) (bytes : Nat) (ht : P.underlying t = some (.slice e)) (hi : P.info? e = some i) (hz : i.zero = some z)
    (hsize : i.size = 1) (hby : i.bytes = bytes) (hzs : z.cells.size = 1)
    (ad : Option Addr) (n c : Nat) (vs : List Value) (hs : a.eval s = .slice ad n c) (hown : Own w B e ad n c vs)
    (u : Value) (hx : a.eval x = .slice (some ⟨w.heap.size, 0, none⟩) 1 1) (h1 : u.oneCell' = true) (hlen : n + 1 ≤ 1000000) (hb : bytes ≤ 1000) (hB : B ≤ w.heap.size)
    (h : ∀ g c' w', Own w' B e (some ⟨g, 0, none⟩) (n + 1) c' (vs ++ [u]) → w.grownBy w' (Value.slice ad n c).ownBlock → wpList P ops Q rest (a.put o.dst (.slice (some ⟨g, 0, none⟩) (n + 1) c')) w') :
    wpList P ops Q (o :: rest) a (w.alloc (.cells #[u] e)) :=
  append1_at w hgd s x t ho B e i z bytes ht hi hz hsize hby hzs ad n c vs hs hown u hx h1 hlen hb hB fun g c' w' h1 h2 _ => h g c' w' h1 h2

theorem Own.block {w : World} {B e : Nat} {a : Option Addr} {n c : Nat} {vs : List Value} (h : Own w B e a n c vs) : ∀ k, (Value.slice a n c).ownBlock = some k → B ≤ k := fun k hk => (World.ownsRow.lt h k hk).1

/-- The same at a slice of int. -/
theorem app_int (w : World) {ops : Array Oper} {rest : List Oper} {o : Oper} {a : Act} {Q : Exit → Act → World → Prop} (hgd : o.guard = none) (s x : Operand)
    (ho : o.op = .call { callee := .builtin .append, args := #[s, x], argTypes := #[26, 26] })
    (B : Nat) (ad : Option Addr) (n c : Nat) (xs : List Int) (hown : OwnI w B ad n c xs) (y : Int) (hs : a.eval s = .slice ad n c)
    (hx : a.eval x = .slice (some ⟨w.heap.size, 0, none⟩) 1 1) (hlen : n + 1 ≤ 1000000) (hB : B ≤ w.heap.size)
    (h : ∀ g c' w', OwnI w' B (some ⟨g, 0, none⟩) (n + 1) c' (xs ++ [y]) → w.grownBy w' (Value.slice ad n c).ownBlock → wpList Try.prog ops Q rest (a.put o.dst (.slice (some ⟨g, 0, none⟩) (n + 1) c')) w') :
    wpList Try.prog ops Q (o :: rest) a (w.alloc (.cells #[.int .i64 y] 3)) := by
  obtain ⟨i0, hi, hz0, hz1, hz2⟩ := info_parts intInfo
  refine append1 w hgd s x 26 ho B 3 i0 (.int .i64 0) 8 Try.underlying26 hi hz0 hz1 hz2 rfl ad n c _ hs hown (.int .i64 y) hx rfl hlen (by decide) hB ?_
  intro g c' w' h1 h2
  exact h g c' w' (by simpa [OwnI, List.map_append] using h1) h2


/-- The value v leads to a slice of int that reads xs; its cells lie from block R on, and not in block r. -/
def RowI (w : World) (r : Option Nat) (R : Nat) (v : Value) (xs : List Int) : Prop :=
  ∃ a n c, v = .slice a n c ∧ Ints w a n xs ∧ ∀ p, a = some p → 0 < n → r ≠ some p.block ∧ R ≤ p.block
theorem Ints.block_lt {w : World} {a : Option Addr} {n : Nat} {xs : List Int} (h : Ints w a n xs) {p : Addr} (ha : a = some p) (hn : 0 < n) : p.block < w.heap.size := by
  obtain ⟨b, off, ha', hc⟩ := h.cell hn
  rw [ha] at ha'
  injection ha' with e
  subst e
  exact World.block_lt_of_cell? w _ hc
theorem Ints.grown {w w' : World} {a : Option Addr} {n : Nat} {xs : List Int} {r : Option Nat} (h : Ints w a n xs) (hg : w.grownBy w' r) (hr : ∀ p, a = some p → 0 < n → r ≠ some p.block) : Ints w' a n xs := by
  refine ⟨h.1, h.2.1, fun k hk => ?_⟩
  obtain ⟨b, off, ha, u, hu, hc⟩ := At.cellSome h hk
  subst ha
  refine ⟨b, off, rfl, ?_⟩
  rw [hu]
  exact World.grownBy.cell hg hc (fun e => hr _ rfl (by omega) e.symm)
theorem RowI.ext {w w' : World} {r : Option Nat} {R : Nat} {v : Value} {xs : List Int} (h : RowI w r R v xs) (hx : Ext none w w') : RowI w' r R v xs := by
  obtain ⟨a, n, c, hv, hi, h⟩ := h
  exact ⟨a, n, c, hv, hi.ext hx, h⟩
theorem RowI.low {w : World} {r : Option Nat} {R R' : Nat} {v : Value} {xs : List Int} (h : RowI w r R v xs) (hR : R' ≤ R) : RowI w r R' v xs := by
  obtain ⟨a, n, c, hv, hi, h⟩ := h
  exact ⟨a, n, c, hv, hi, fun p hp hn => ⟨(h p hp hn).1, Nat.le_trans hR (h p hp hn).2⟩⟩
theorem RowI.any {w : World} {r : Option Nat} {R : Nat} {v : Value} {xs : List Int} (h : RowI w r R v xs) : RowI w none 0 v xs := by
  obtain ⟨a, n, c, hv, hi, h⟩ := h
  exact ⟨a, n, c, hv, hi, fun p hp hn => ⟨by simp, by omega⟩⟩
theorem RowI.grown {w w' : World} {r q s : Option Nat} {R : Nat} {v : Value} {xs : List Int} (h : RowI w r R v xs) (hg : w.grownBy w' s) (hs : s = r ∨ ∃ k, s = some k ∧ k < R) (hq : q = r ∨ ∃ k, q = some k ∧ w.heap.size ≤ k) : RowI w' q R v xs := by
  obtain ⟨a, n, c, hv, hi, h⟩ := h
  refine ⟨a, n, c, hv, hi.grown hg (fun p hp hn => ?_), fun p hp hn => ⟨?_, (h p hp hn).2⟩⟩
  · rcases hs with rfl | ⟨k, rfl, hk⟩
    · exact (h p hp hn).1
    · have := (h p hp hn).2
      intro e; injection e with e; omega
  · rcases hq with rfl | ⟨k, rfl, hk⟩
    · exact (h p hp hn).1
    · have := hi.block_lt hp hn
      intro e; injection e with e; omega
theorem Ints.row {w : World} {a : Option Addr} {n c : Nat} {xs : List Int} (h : Ints w a n xs) : RowI w none 0 (.slice a n c) xs := ⟨a, n, c, rfl, h, fun p _ _ => ⟨by simp, by omega⟩⟩
/-- a slice of memory that came later than block r -/
theorem OwnI.row {w : World} {B R a n c} {r : Option Nat} {xs : List Int} (h : OwnI w B a n c xs) (hr : ∀ k, r = some k → k < B) (hR : R ≤ B) : RowI w r R (.slice a n c) xs := by
  refine ⟨a, n, c, rfl, h.ints, fun p hp hn => ?_⟩
  subst hp
  have hB : B ≤ p.block := by
    rcases h.2 with ⟨hv, h0⟩ | ⟨g, cap, cur, hv, hB, _⟩
    · omega
    · injection hv with ha _ _
      injection ha with ha
      subst ha; exact hB
  refine ⟨fun e => ?_, Nat.le_trans hR hB⟩
  have := hr _ e; omega

/-- The values vs lead to the lists f. -/
def Rows (w : World) (r : Option Nat) (R : Nat) (vs : List Value) (f : List (List Int)) : Prop :=
  vs.length = f.length ∧ ∀ (k : Nat) v xs, vs[k]? = some v → f[k]? = some xs → RowI w r R v xs
theorem Rows.nil (w : World) (r : Option Nat) (R : Nat) : Rows w r R [] [] := ⟨rfl, fun k v xs h => by simp at h⟩
theorem Rows.imp {w w' : World} {r r' : Option Nat} {R R' : Nat} {vs : List Value} {f : List (List Int)} (h : Rows w r R vs f) (hi : ∀ v xs, RowI w r R v xs → RowI w' r' R' v xs) : Rows w' r' R' vs f :=
  ⟨h.1, fun k v xs hv hx => hi v xs (h.2 k v xs hv hx)⟩
theorem Rows.snoc {w : World} {r : Option Nat} {R : Nat} {vs : List Value} {f : List (List Int)} {v : Value} {xs : List Int} (h : Rows w r R vs f) (hv : RowI w r R v xs) : Rows w r R (vs ++ [v]) (f ++ [xs]) := by
  refine ⟨by simp [h.1], fun k u ys hu hy => ?_⟩
  by_cases hk : k < vs.length
  · rw [List.getElem?_append_left hk] at hu
    rw [List.getElem?_append_left (by rw [← h.1]; exact hk)] at hy
    exact h.2 k u ys hu hy
  · rw [List.getElem?_append_right (by omega)] at hu
    rw [List.getElem?_append_right (by rw [← h.1]; omega), ← h.1] at hy
    by_cases h0 : k - vs.length = 0
    · rw [h0] at hu hy
      simp at hu hy
      subst hu hy; exact hv
    · obtain ⟨j, hj⟩ : ∃ j, k - vs.length = j + 1 := ⟨k - vs.length - 1, by omega⟩
      rw [hj] at hu
      simp at hu
theorem Rows.app {w : World} {r : Option Nat} {R : Nat} {vs us : List Value} {f g : List (List Int)} (h : Rows w r R vs f) (k : Rows w r R us g) : Rows w r R (vs ++ us) (f ++ g) := by
  refine ⟨by simp [h.1, k.1], fun j u ys hu hy => ?_⟩
  by_cases hj : j < vs.length
  · rw [List.getElem?_append_left hj] at hu
    rw [List.getElem?_append_left (by rw [← h.1]; exact hj)] at hy
    exact h.2 j u ys hu hy
  · rw [List.getElem?_append_right (by omega)] at hu
    rw [List.getElem?_append_right (by rw [← h.1]; omega), ← h.1] at hy
    exact k.2 _ u ys hu hy
theorem Rows.cut {w : World} {r : Option Nat} {R : Nat} {vs : List Value} {f : List (List Int)} (h : Rows w r R vs f) (i j : Nat) : Rows w r R ((vs.take j).drop i) ((f.take j).drop i) := by
  refine ⟨by simp [h.1], fun k u ys hu hy => ?_⟩
  rw [List.getElem?_drop, List.getElem?_take] at hu hy
  split at hu
  · rename_i hlt
    rw [if_pos hlt] at hy
    exact h.2 _ u ys hu hy
  · cases hu

/-- A slice of slices of int that reads f. -/
def Fam (w : World) (a : Option Addr) (n : Nat) (f : List (List Int)) : Prop := ∃ vs, At w a n vs ∧ Rows w none 0 vs f
theorem Fam.len {w : World} {a : Option Addr} {n : Nat} {f : List (List Int)} (h : Fam w a n f) : f.length = n := by
  obtain ⟨vs, h1, h2⟩ := h; rw [← h2.1, h1.len]
theorem Fam.max {w : World} {a : Option Addr} {n : Nat} {f : List (List Int)} (h : Fam w a n f) : n ≤ 9223372036854775807 := by
  obtain ⟨vs, h1, h2⟩ := h; exact h1.max
theorem Fam.ext {w w' : World} {a : Option Addr} {n : Nat} {f : List (List Int)} (h : Fam w a n f) (hx : Ext none w w') : Fam w' a n f := by
  obtain ⟨vs, h1, h2⟩ := h; exact ⟨vs, h1.ext hx, h2.imp fun _ _ hr => hr.ext hx⟩
theorem Fam.cell {w : World} {a : Option Addr} {n : Nat} {f : List (List Int)} (h : Fam w a n f) {k : Nat} (hk : k < n) :
    ∃ b off a2 n2 c2, a = some ⟨b, off, none⟩ ∧ w.cell? ⟨b, off + k, none⟩ = some (.slice a2 n2 c2) ∧ Ints w a2 n2 (f.getD k []) := by
  have hl := h.len
  obtain ⟨vs, h1, h2⟩ := h
  obtain ⟨b, off, ha, u, hu, hc⟩ := h1.cellSome hk
  have hf : f[k]? = some (f.getD k []) := by rw [List.getElem?_eq_getElem (by omega)]; simp [List.getD, List.getElem?_eq_getElem (show k < f.length by omega)]
  obtain ⟨a2, n2, c2, rfl, hi, _⟩ := h2.2 k u _ hu hf
  exact ⟨b, off, a2, n2, c2, ha, hc, hi⟩
theorem Fam.cellAt {w : World} {b off n : Nat} {f : List (List Int)} (h : Fam w (some ⟨b, off, none⟩) n f) {k : Nat} (hk : k < n) :
    ∃ a2 n2 c2, w.cell? ⟨b, off + k, none⟩ = some (.slice a2 n2 c2) ∧ Ints w a2 n2 (f.getD k []) := by
  obtain ⟨b', off', a2, n2, c2, ha, hc, hi⟩ := h.cell hk
  simp only [Option.some.injEq, Addr.mk.injEq, and_true] at ha
  obtain ⟨rfl, rfl⟩ := ha
  exact ⟨a2, n2, c2, hc, hi⟩
theorem Fam.nil (w : World) (a : Option Addr) : Fam w a 0 [] := ⟨[], At.nil w a, Rows.nil w _ _⟩

/-- The call's own slice of slices: its row lies from block B on, the rows of its sets from R on and beside it. -/
def OwnF (w : World) (B R : Nat) (a : Option Addr) (n c : Nat) (f : List (List Int)) : Prop :=
  ∃ vs, Own w B 26 a n c vs ∧ Rows w (Value.slice a n c).ownBlock R vs f
theorem OwnF.fam {w : World} {B R : Nat} {a : Option Addr} {n c : Nat} {f : List (List Int)} (h : OwnF w B R a n c f) : Fam w a n f := by
  obtain ⟨vs, h1, h2⟩ := h; exact ⟨vs, h1.at_, h2.imp fun _ _ hr => hr.any⟩
theorem OwnF.len {w : World} {B R : Nat} {a : Option Addr} {n c : Nat} {f : List (List Int)} (h : OwnF w B R a n c f) : f.length = n := h.fam.len
theorem OwnF.mono {w : World} {B B' R R' : Nat} {a : Option Addr} {n c : Nat} {f : List (List Int)} (h : OwnF w B R a n c f) (hB : B' ≤ B) (hR : R' ≤ R) : OwnF w B' R' a n c f := by
  obtain ⟨vs, h1, h2⟩ := h; exact ⟨vs, h1.mono hB, h2.imp fun _ _ hr => hr.low hR⟩
theorem OwnF.ext0 {w w' : World} {B R : Nat} {a : Option Addr} {n c : Nat} {f : List (List Int)} (h : OwnF w B R a n c f) (hx : Ext none w w') : OwnF w' B R a n c f := by
  obtain ⟨vs, h1, h2⟩ := h; exact ⟨vs, h1.ext0 hx, h2.imp fun _ _ hr => hr.ext hx⟩
theorem OwnF.ext {w w' : World} {B R : Nat} {a : Option Addr} {n c : Nat} {f : List (List Int)} {r : Option Nat} (h : OwnF w B R a n c f) (hx : Ext r w w') (hr : ∀ k, r = some k → k < B ∧ k < R) : OwnF w' B R a n c f := by
  obtain ⟨vs, h1, h2⟩ := h
  refine ⟨vs, h1.ext hx (fun k hk => (hr k hk).1), ?_⟩
  cases r with
  | none => exact h2.imp fun _ _ hv => hv.ext hx
  | some k => exact h2.imp fun _ _ hv => hv.grown hx (.inr ⟨k, rfl, (hr k rfl).2⟩) (.inl rfl)
theorem OwnF.block {w : World} {B R : Nat} {a : Option Addr} {n c : Nat} {f : List (List Int)} (h : OwnF w B R a n c f) : ∀ k, (Value.slice a n c).ownBlock = some k → B ≤ k := by
  obtain ⟨vs, h1, h2⟩ := h; exact h1.block
theorem OwnF.blockLt {w : World} {B R : Nat} {a : Option Addr} {n c : Nat} {f : List (List Int)} (h : OwnF w B R a n c f) : ∀ k, (Value.slice a n c).ownBlock = some k → k < w.heap.size := by
  obtain ⟨vs, h1, h2⟩ := h; exact fun k hk => (World.ownsRow.lt h1 k hk).2
theorem OwnF.nil (w : World) (B R : Nat) : OwnF w B R none 0 0 [] := ⟨[], Own.nil w B _, Rows.nil w _ _⟩
/-- '[][]int{}'. -/
theorem OwnF.made (w : World) (R : Nat) : OwnF (w.alloc (.cells #[] 26)) w.heap.size R (some ⟨w.heap.size, 0, none⟩) 0 0 [] :=
  ⟨[], World.ownsRow_made w #[] 0 (Nat.le_refl _) (by simp [maxLen]) rfl, Rows.nil _ _ _⟩
/-- What a function that returns a family in new memory leaves. -/
def RF (w : World) (f : List (List Int)) (e : Ending) (w' : World) : Prop :=
  ∃ a n c, e = .returned (.slice a n c) ∧ OwnF w' w.heap.size w.heap.size a n c f ∧ Ext none w w'
def RFB (w : World) (f : List (List Int)) (b : Bool) (e : Ending) (w' : World) : Prop :=
  ∃ a n c, e = .returned (.tuple #[.slice a n c, .bool b]) ∧ OwnF w' w.heap.size w.heap.size a n c f ∧ Ext none w w'

theorem rowInfo : (Try.prog.info? 26).map (fun i => (i.zero, i.size, i.bytes)) = some (some (.slice none 0 0), 1, 24) := by kernel_rfl

/-- 'out = append(out, s)'. -/
theorem app_row (w : World) {ops : Array Oper} {rest : List Oper} {o : Oper} {a : Act} {Q : Exit → Act → World → Prop} (hgd : o.guard = none) (s x : Operand)
    (ho : o.op = .call { callee := .builtin .append, args := #[s, x], argTypes := #[23, 23] })
    (B R : Nat) (ad : Option Addr) (n c : Nat) (f : List (List Int)) (hown : OwnF w B R ad n c f) (sa : Option Addr) (sn sc : Nat) (xs : List Int) (hv : RowI w (Value.slice ad n c).ownBlock R (.slice sa sn sc) xs) (hs : a.eval s = .slice ad n c)
    (hx : a.eval x = .slice (some ⟨w.heap.size, 0, none⟩) 1 1) (hlen : n + 1 ≤ 1000000) (hB : B ≤ w.heap.size)
    (h : ∀ g c' w', OwnF w' B R (some ⟨g, 0, none⟩) (n + 1) c' (f ++ [xs]) → w.grownBy w' (Value.slice ad n c).ownBlock → wpList Try.prog ops Q rest (a.put o.dst (.slice (some ⟨g, 0, none⟩) (n + 1) c')) w') :
    wpList Try.prog ops Q (o :: rest) a (w.alloc (.cells #[.slice sa sn sc] 26)) := by
  obtain ⟨i0, hi, hz0, hz1, hz2⟩ := info_parts rowInfo
  obtain ⟨vs, h1, h2⟩ := hown
  refine append1_at w hgd s x 23 ho B 26 i0 (.slice none 0 0) 24 Try.underlying23 hi hz0 hz1 hz2 rfl ad n c vs hs h1 (.slice sa sn sc) hx rfl hlen (by decide) hB ?_
  intro g c' w' k1 k2 k3
  refine h g c' w' ⟨_, k1, (h2.snoc hv).imp fun v ys hr => hr.grown k2 (.inl rfl) ?_⟩ k2
  rcases k3 with e | e
  · exact .inl (by rw [← e]; rfl)
  · exact .inr ⟨g, rfl, by omega⟩


theorem At.news {w : World} {ad : Addr} {n : Nat} {vs : List Value} (h : At w (some ad) n vs) : ∀ j u, vs[j]? = some u → w.cell? (ad.add j) = some u := by
  intro j u hj
  have hj' : j < n := by rw [← h.1]; exact (List.getElem?_eq_some_iff.1 hj).1
  obtain ⟨b, off, ha, hc⟩ := h.2.2 j hj'
  injection ha with ha
  subst ha
  have e : (⟨b, off, none⟩ : Addr).add j = ⟨b, off + j, none⟩ := by unfold Addr.add; split <;> simp_all
  rw [e, hc, hj]
/-- a part of a slice, from place i on -/
theorem At.part {w : World} {b off n m i : Nat} {vs : List Value} {a : Option Addr} (h : At w (some ⟨b, off, none⟩) n vs) (him : i + m ≤ n) (ha : a = some ⟨b, off + i, none⟩ ∨ m = 0) : At w a m ((vs.drop i).take m) := by
  refine ⟨by rw [List.length_take, List.length_drop, h.1]; omega, Nat.le_trans (by omega) h.2.1, fun k hk => ?_⟩
  obtain ⟨b', off', ha', hc⟩ := h.2.2 (i + k) (by omega)
  simp only [Option.some.injEq, Addr.mk.injEq, and_true] at ha'
  obtain ⟨rfl, rfl⟩ := ha'
  rcases ha with rfl | h0
  · exact ⟨_, _, rfl, by rw [Nat.add_assoc, hc, List.getElem?_take, if_pos hk, List.getElem?_drop]⟩
  · omega

/-- append of a whole slice, as a step of a region that draws its order -/
theorem step_app {P : Program} {ops : Array Oper} {o : Oper} {a : Act} {w : World} {K : Act → World → Prop} {Q : Exit → Act → World → Prop} {E : Prop}
    (hg : o.guard = none) (s x : Operand) (t : TypeId) (ho : o.op = Op.call { callee := Callee.builtin Builtin.append, args := #[s, x], argTypes := #[t, t] })
    (B e : Nat) (i : TypeInfo) (z : Value) (bytes : Nat) (ht : P.underlying t = some (.slice e)) (hi : P.info? e = some i) (hz : i.zero = some z) (hsize : i.size = 1) (hby : i.bytes = bytes) (hzs : z.cells.size = 1)
    (ad : Option Addr) (n c : Nat) (vs : List Value) (hs : a.eval s = .slice ad n c) (hown : Own w B e ad n c vs)
    (sa : Addr) (m cs : Nat) (us : List Value) (hx : a.eval x = .slice (some sa) m cs) (hsrc : At w (some sa) m us) (h1 : ∀ u ∈ us, u.oneCell' = true) (hlen : n + m ≤ 1000000) (hb : bytes ≤ 1000) (hB : B ≤ w.heap.size)
    (hK : ∀ a' c' w', Own w' B e a' (n + m) c' (vs ++ us) → w.grownBy w' (Value.slice ad n c).ownBlock → ((Value.slice a' (n + m) c').ownBlock = (Value.slice ad n c).ownBlock ∨ (Value.slice a' (n + m) c').ownBlock = some w.heap.size) → ((a' = none → n + m = 0 ∧ c' = 0)) → K (a.put o.dst (.slice a' (n + m) c')) w') :
    if Region.wanted o (yielded ops a.tmps) = true then Oper.wp P o a w K Q else E := by
  have hw : Region.wanted o (yielded ops a.tmps) = true := by simp [Region.wanted, hg]
  rw [if_pos hw]
  have hmul : (n + m) * bytes ≤ 1000000 * 1000 := Nat.mul_le_mul hlen hb
  obtain ⟨v', w', hr, h2, h3, h4, h5⟩ := run_append_own_at (P := P) w B t o.type e i z 1 bytes ht hi hz hsize hby hzs (by decide) _ n vs hown sa m cs us (by rw [hsrc.1]; omega) hsrc.news h1 (by simp only [maxLen]; omega) (by omega) hB
  obtain ⟨a', c', rfl, hnil⟩ : ∃ a' c', v' = .slice a' (n + m) c' ∧ (a' = none → n + m = 0 ∧ c' = 0) := by
    rcases h2.2 with ⟨rfl, h0⟩ | ⟨g, cap, _, rfl, _⟩
    · exact ⟨none, 0, by rw [h0], fun _ => ⟨h0, rfl⟩⟩
    · exact ⟨some ⟨g, 0, none⟩, cap, rfl, fun h => by cases h⟩
  unfold Oper.wp execOp
  simp only [ho, resolve, invoke, builtin, Sem.run_bind, Sem.run_pure, Result.andThen_ok, List.map_toArray, List.map_cons, List.map_nil, hs, hx, hr]
  exact hK a' c' w' h2 h3 h5 hnil
/-- .. and outside one -/
theorem wpl_app {P : Program} {ops : Array Oper} {rest : List Oper} {o : Oper} {a : Act} {w : World} {Q : Exit → Act → World → Prop}
    (hg : o.guard = none) (s x : Operand) (t : TypeId) (ho : o.op = Op.call { callee := Callee.builtin Builtin.append, args := #[s, x], argTypes := #[t, t] })
    (B e : Nat) (i : TypeInfo) (z : Value) (bytes : Nat) (ht : P.underlying t = some (.slice e)) (hi : P.info? e = some i) (hz : i.zero = some z) (hsize : i.size = 1) (hby : i.bytes = bytes) (hzs : z.cells.size = 1)
    (ad : Option Addr) (n c : Nat) (vs : List Value) (hs : a.eval s = .slice ad n c) (hown : Own w B e ad n c vs)
    (sa : Addr) (m cs : Nat) (us : List Value) (hx : a.eval x = .slice (some sa) m cs) (hsrc : At w (some sa) m us) (h1 : ∀ u ∈ us, u.oneCell' = true) (hlen : n + m ≤ 1000000) (hb : bytes ≤ 1000) (hB : B ≤ w.heap.size)
    (hK : ∀ a' c' w', Own w' B e a' (n + m) c' (vs ++ us) → w.grownBy w' (Value.slice ad n c).ownBlock → ((Value.slice a' (n + m) c').ownBlock = (Value.slice ad n c).ownBlock ∨ (Value.slice a' (n + m) c').ownBlock = some w.heap.size) → ((a' = none → n + m = 0 ∧ c' = 0)) → wpList P ops Q rest (a.put o.dst (.slice a' (n + m) c')) w') :
    wpList P ops Q (o :: rest) a w := by
  refine wpList_plain hg fun K hK2 => ?_
  have := step_app (P := P) (ops := ops) (o := o) (a := a) (w := w) (K := K) (Q := Q) (E := False) hg s x t ho B e i z bytes ht hi hz hsize hby hzs ad n c vs hs hown sa m cs us hx hsrc h1 hlen hb hB (fun a' c' w' k1 k2 k3 k4 => hK2 _ _ (hK a' c' w' k1 k2 k3 k4))
  rwa [if_pos (by simp [Region.wanted, hg])] at this

/-- append of a slice of int, as a step -/
theorem step_ints {ops : Array Oper} {o : Oper} {a : Act} {w : World} {K : Act → World → Prop} {Q : Exit → Act → World → Prop} {E : Prop}
    (hg : o.guard = none) (s x : Operand) (ho : o.op = Op.call { callee := Callee.builtin Builtin.append, args := #[s, x], argTypes := #[26, 26] })
    (B : Nat) (ad : Option Addr) (n c : Nat) (xs : List Int) (hs : a.eval s = .slice ad n c) (hown : OwnI w B ad n c xs)
    (sa : Addr) (m cs : Nat) (ys : List Int) (hx : a.eval x = .slice (some sa) m cs) (hsrc : Ints w (some sa) m ys) (hlen : n + m ≤ 1000000) (hB : B ≤ w.heap.size)
    (hK : ∀ a' c' w', OwnI w' B a' (n + m) c' (xs ++ ys) → w.grownBy w' (Value.slice ad n c).ownBlock → K (a.put o.dst (.slice a' (n + m) c')) w') :
    if Region.wanted o (yielded ops a.tmps) = true then Oper.wp Try.prog o a w K Q else E := by
  obtain ⟨i0, hi, hz0, hz1, hz2⟩ := info_parts intInfo
  refine step_app hg s x 26 ho B 3 i0 (.int .i64 0) 8 Try.underlying26 hi hz0 hz1 hz2 rfl ad n c _ hs hown sa m cs _ hx hsrc ?_ hlen (by decide) hB fun a' c' w' k1 k2 _ _ => hK a' c' w' (by unfold OwnI; rw [List.map_append]; exact k1) k2
  intro u hu
  obtain ⟨y, _, rfl⟩ := List.mem_map.1 hu
  rfl
/-- Fam, with what a slice in Go bears: nil has no length and no room -/
def Nil0 (a : Option Addr) (n c : Nat) : Prop := a = none → n = 0 ∧ c = 0
theorem OwnF.nil0 {w : World} {B R : Nat} {a : Option Addr} {n c : Nat} {f : List (List Int)} (h : OwnF w B R a n c f) : Nil0 a n c := by
  obtain ⟨vs, h1, _⟩ := h
  intro ha
  rcases h1.2 with ⟨hv, h0⟩ | ⟨g, cap, _, hv, _⟩
  · injection hv with _ _ hc; exact ⟨h0, hc⟩
  · injection hv with h _ _; rw [ha] at h; cases h
theorem OwnI.nil0 {w : World} {B : Nat} {a : Option Addr} {n c : Nat} {f : List Int} (h : OwnI w B a n c f) : Nil0 a n c := by
  intro ha
  rcases h.2 with ⟨hv, h0⟩ | ⟨g, cap, _, hv, _⟩
  · injection hv with _ _ hc; exact ⟨h0, hc⟩
  · injection hv with h _ _; rw [ha] at h; cases h
theorem OwnI.cap {w : World} {B : Nat} {a : Option Addr} {n c : Nat} {f : List Int} (h : OwnI w B a n c f) : n ≤ c ∧ c ≤ 9223372036854775807 := by
  rcases h.2 with ⟨hv, h0⟩ | ⟨g, cap, _, hv, _, _, h1, h2, _⟩
  · injection hv with _ _ hc; subst hc; omega
  · injection hv with _ _ hc; subst hc; simp only [maxLen] at h2; omega
theorem OwnF.cap {w : World} {B R : Nat} {a : Option Addr} {n c : Nat} {f : List (List Int)} (h : OwnF w B R a n c f) : n ≤ c ∧ c ≤ 9223372036854775807 := by
  obtain ⟨vs, h, _⟩ := h
  rcases h.2 with ⟨hv, h0⟩ | ⟨g, cap, _, hv, _, _, h1, h2, _⟩
  · injection hv with _ _ hc; subst hc; omega
  · injection hv with _ _ hc; subst hc; simp only [maxLen] at h2; omega
theorem rows_one {w : World} {r : Option Nat} {R : Nat} {vs : List Value} {f : List (List Int)} (h : Rows w r R vs f) : ∀ u ∈ vs, u.oneCell' = true := by
  intro u hu
  obtain ⟨k, hk, rfl⟩ := List.getElem_of_mem hu
  have hf : k < f.length := by rw [← h.1]; exact hk
  obtain ⟨a, n, c, e, _⟩ := h.2 k _ _ (List.getElem?_eq_getElem hk) (List.getElem?_eq_getElem hf)
  rw [e]; rfl
/-- append of a family, as a step; its rows lie in blocks that the growing row does not touch -/
theorem step_fam {ops : Array Oper} {o : Oper} {a : Act} {w : World} {K : Act → World → Prop} {Q : Exit → Act → World → Prop} {E : Prop}
    (hg : o.guard = none) (s x : Operand) (ho : o.op = Op.call { callee := Callee.builtin Builtin.append, args := #[s, x], argTypes := #[23, 23] })
    (B R : Nat) (ad : Option Addr) (n c : Nat) (f : List (List Int)) (hs : a.eval s = .slice ad n c) (hown : OwnF w B R ad n c f)
    (sa : Addr) (m cs : Nat) (us : List Value) (g : List (List Int)) (hx : a.eval x = .slice (some sa) m cs) (hsrc : At w (some sa) m us) (hrow : Rows w (Value.slice ad n c).ownBlock R us g) (hlen : n + m ≤ 1000000) (hB : B ≤ w.heap.size)
    (hK : ∀ a' c' w', OwnF w' B R a' (n + m) c' (f ++ g) → w.grownBy w' (Value.slice ad n c).ownBlock → K (a.put o.dst (.slice a' (n + m) c')) w') :
    if Region.wanted o (yielded ops a.tmps) = true then Oper.wp Try.prog o a w K Q else E := by
  obtain ⟨i0, hi, hz0, hz1, hz2⟩ := info_parts rowInfo
  obtain ⟨vs, h1, h2⟩ := hown
  refine step_app hg s x 23 ho B 26 i0 (.slice none 0 0) 24 Try.underlying23 hi hz0 hz1 hz2 rfl ad n c vs hs h1 sa m cs us hx hsrc (rows_one hrow) hlen (by decide) hB fun a' c' w' k1 k2 k3 _ => hK a' c' w' ⟨_, k1, ?_⟩ k2
  refine (h2.app hrow).imp fun v ys hr => hr.grown k2 (.inl rfl) ?_
  rcases k3 with e | e
  · exact .inl e
  · exact .inr ⟨_, e, Nat.le_refl _⟩
/-- append of a slice of int, outside a region -/
theorem wpl_ints {ops : Array Oper} {rest : List Oper} {o : Oper} {a : Act} {w : World} {Q : Exit → Act → World → Prop}
    (hg : o.guard = none) (s x : Operand) (ho : o.op = Op.call { callee := Callee.builtin Builtin.append, args := #[s, x], argTypes := #[26, 26] })
    (B : Nat) (ad : Option Addr) (n c : Nat) (xs : List Int) (hs : a.eval s = .slice ad n c) (hown : OwnI w B ad n c xs)
    (sa : Addr) (m cs : Nat) (ys : List Int) (hx : a.eval x = .slice (some sa) m cs) (hsrc : Ints w (some sa) m ys) (hlen : n + m ≤ 1000000) (hB : B ≤ w.heap.size)
    (hK : ∀ a' c' w', OwnI w' B a' (n + m) c' (xs ++ ys) → w.grownBy w' (Value.slice ad n c).ownBlock → wpList Try.prog ops Q rest (a.put o.dst (.slice a' (n + m) c')) w') :
    wpList Try.prog ops Q (o :: rest) a w := by
  refine wpList_plain hg fun K hK2 => ?_
  have := step_ints (ops := ops) (o := o) (a := a) (w := w) (K := K) (Q := Q) (E := False) hg s x ho B ad n c xs hs hown sa m cs ys hx hsrc hlen hB (fun a' c' w' k1 k2 => hK2 _ _ (hK a' c' w' k1 k2))
  rwa [if_pos (by simp [Region.wanted, hg])] at this
/-- append of a family, outside a region -/
theorem wpl_fam {ops : Array Oper} {rest : List Oper} {o : Oper} {a : Act} {w : World} {Q : Exit → Act → World → Prop}
    (hg : o.guard = none) (s x : Operand) (ho : o.op = Op.call { callee := Callee.builtin Builtin.append, args := #[s, x], argTypes := #[23, 23] })
    (B R : Nat) (ad : Option Addr) (n c : Nat) (f : List (List Int)) (hs : a.eval s = .slice ad n c) (hown : OwnF w B R ad n c f)
    (sa : Addr) (m cs : Nat) (us : List Value) (g : List (List Int)) (hx : a.eval x = .slice (some sa) m cs) (hsrc : At w (some sa) m us) (hrow : Rows w (Value.slice ad n c).ownBlock R us g) (hlen : n + m ≤ 1000000) (hB : B ≤ w.heap.size)
    (hK : ∀ a' c' w', OwnF w' B R a' (n + m) c' (f ++ g) → w.grownBy w' (Value.slice ad n c).ownBlock → wpList Try.prog ops Q rest (a.put o.dst (.slice a' (n + m) c')) w') :
    wpList Try.prog ops Q (o :: rest) a w := by
  refine wpList_plain hg fun K hK2 => ?_
  have := step_fam (ops := ops) (o := o) (a := a) (w := w) (K := K) (Q := Q) (E := False) hg s x ho B R ad n c f hs hown sa m cs us g hx hsrc hrow hlen hB (fun a' c' w' k1 k2 => hK2 _ _ (hK a' c' w' k1 k2))
  rwa [if_pos (by simp [Region.wanted, hg])] at this
/-- append of one set, as a step of a region -/
theorem step_row {ops : Array Oper} {o : Oper} {a : Act} (w : World) {K : Act → World → Prop} {Q : Exit → Act → World → Prop} {E : Prop}
    (hg : o.guard = none) (s x : Operand) (ho : o.op = Op.call { callee := Callee.builtin Builtin.append, args := #[s, x], argTypes := #[23, 23] })
    (B R : Nat) (ad : Option Addr) (n c : Nat) (f : List (List Int)) (hs : a.eval s = .slice ad n c) (hown : OwnF w B R ad n c f)
    (v : Value) (xs : List Int) (hx : a.eval x = .slice (some ⟨w.heap.size, 0, none⟩) 1 1) (hv : RowI w (Value.slice ad n c).ownBlock R v xs) (hlen : n + 1 ≤ 1000000) (hB : B ≤ w.heap.size)
    (hK : ∀ a' c' w', OwnF w' B R a' (n + 1) c' (f ++ [xs]) → w.grownBy w' (Value.slice ad n c).ownBlock → K (a.put o.dst (.slice a' (n + 1) c')) w') :
    if Region.wanted o (yielded ops a.tmps) = true then Oper.wp Try.prog o a (w.alloc (.cells #[v] 26)) K Q else E := by
  have hx0 : Ext none w (w.alloc (.cells #[v] 26)) := (Ext.refl _ _).alloc _
  refine step_fam hg s x ho B R ad n c f hs (hown.ext0 hx0) ⟨w.heap.size, 0, none⟩ 1 1 [v] [xs] hx ?_ ?_ hlen (Nat.le_trans hB hx0.size) fun a' c' w' k1 k2 => hK a' c' w' k1 (World.grownBy.trans (World.grownBy_alloc w _ _) k2)
  · refine ⟨rfl, by simp [maxLen], fun k hk => ⟨_, _, rfl, ?_⟩⟩
    obtain rfl : k = 0 := by omega
    exact cell_one_new w v _ 0 v rfl
  · exact ((Rows.nil _ _ _).snoc (hv.ext hx0) : Rows _ _ R ([] ++ [v]) ([] ++ [xs]))
theorem fam_some {w : World} {a : Option Addr} {n : Nat} {f : List (List Int)} (h : Fam w a n f) : ∃ us, At w a n us ∧ Rows w none 0 us f := h
theorem rows_sep {w : World} {r : Option Nat} {us : List Value} {f : List (List Int)} (h : Rows w none 0 us f) (hr : ∀ k, r = some k → w.heap.size ≤ k) : Rows w r 0 us f :=
  h.imp fun v xs ⟨a, n, c, e, hi, hp⟩ => ⟨a, n, c, e, hi, fun p hp' hn => ⟨fun e' => by have := hi.block_lt hp' hn; have := hr _ e'; omega, by omega⟩⟩
theorem rows_ext {w w' : World} {r : Option Nat} {R : Nat} {us : List Value} {f : List (List Int)} (h : Rows w r R us f) (hx : Ext none w w') : Rows w' r R us f := h.imp fun _ _ k => k.ext hx
/-- append of a family that may be nil, outside a region -/
theorem wpl_fam0 {ops : Array Oper} {rest : List Oper} {o : Oper} {a : Act} {w : World} {Q : Exit → Act → World → Prop}
    (hg : o.guard = none) (s x : Operand) (ho : o.op = Op.call { callee := Callee.builtin Builtin.append, args := #[s, x], argTypes := #[23, 23] })
    (B R : Nat) (ad : Option Addr) (n c : Nat) (f : List (List Int)) (hs : a.eval s = .slice ad n c) (hown : OwnF w B R ad n c f)
    (sa : Option Addr) (m cs : Nat) (us : List Value) (g : List (List Int)) (hx : a.eval x = .slice sa m cs) (hz : Nil0 sa m cs) (hsrc : At w sa m us) (hrow : Rows w (Value.slice ad n c).ownBlock R us g) (hlen : n + m ≤ 1000000) (hB : B ≤ w.heap.size)
    (hK : ∀ a' c' w', OwnF w' B R a' (n + m) c' (f ++ g) → w.grownBy w' (Value.slice ad n c).ownBlock → wpList Try.prog ops Q rest (a.put o.dst (.slice a' (n + m) c')) w') :
    wpList Try.prog ops Q (o :: rest) a w := by
  cases sa with
  | some sa => exact wpl_fam hg s x ho B R ad n c f hs hown sa m cs us g hx hsrc hrow hlen hB hK
  | none =>
    obtain ⟨rfl, rfl⟩ := hz rfl
    have hus : us = [] := List.eq_nil_of_length_eq_zero hsrc.1
    subst hus
    have hgn : g = [] := List.eq_nil_of_length_eq_zero (by rw [← hrow.1]; rfl)
    subst hgn
    obtain ⟨i0, hi, hz0, hz1, hz2⟩ := info_parts rowInfo
    have hown' := hown
    obtain ⟨vs, h1, h2⟩ := hown'
    refine wpList_append_own_none hg s x 23 ho B 26 i0 1 Try.underlying23 hi _ n vs hs h1 hx ?_
    exact hK ad c w (by rw [List.append_nil]; exact hown) (World.grownBy.refl _ _)
end Go.Proofs.Ytnifgfnhcjhodaa
