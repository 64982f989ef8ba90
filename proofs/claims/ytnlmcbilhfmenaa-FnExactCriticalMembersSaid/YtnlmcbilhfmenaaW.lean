/- Words for memory: what one call leaves of the old blocks, and slices that read as lists. No program text. Conditions: none beyond each lemma's own. -/
import Derived.Test.YtnlmcbilhfmenaaRows
import Derived.WalkKit
import Derived.WalkSpells
import Derived.WalkLawsBesides
import Derived.Lib.Hide
import Derived.Deep.QuietTactic
import Derived.BigQuiet
import Derived.Deep.DeepCutAuto
import Derived.Maps.AppendAt
namespace Go.Proofs.Ytnlmcbilhfmenaa
open Go.RowKit

/-- What a call leaves: every old block but (at most) block r is as it was. -/
def Ext (r : Option Nat) (w w' : World) : Prop := w.grownBy w' r

theorem Ext.refl (r : Option Nat) (w : World) : Ext r w w := World.grownBy.refl w r
theorem Ext.size {r : Option Nat} {w w' : World} (h : Ext r w w') : w.heap.size ≤ w'.heap.size := World.grownBy.size h
theorem Ext.trans {r : Option Nat} {a b c : World} (h : Ext r a b) (k : Ext r b c) : Ext r a c :=
  ⟨(World.grownBy.os k).trans (World.grownBy.os h), (World.grownBy.tape k).trans (World.grownBy.tape h), (World.grownBy.output k).trans (World.grownBy.output h),
   Nat.le_trans h.size k.size, fun i hi hr => (World.grownBy.block k i (Nat.lt_of_lt_of_le hi h.size) hr).trans (World.grownBy.block h i hi hr)⟩
theorem Ext.weak {r : Option Nat} {w w' : World} (h : Ext none w w') : Ext r w w' :=
  ⟨World.grownBy.os h, World.grownBy.tape h, World.grownBy.output h, h.size, fun i hi _ => World.grownBy.block h i hi (by simp)⟩
theorem Ext.alloc {r : Option Nat} {a w : World} (h : Ext r a w) (o : Obj) : Ext r a (w.alloc o) := h.trans (World.grownBy_alloc w o r)
theorem Ext.drew {r : Option Nat} {a w : World} (h : Ext r a w) : Ext r a w.drew := h.trans
  ⟨rfl, rfl, rfl, Nat.le_refl _, fun _ _ _ => rfl⟩
theorem Ext.drewN {r : Option Nat} {a w : World} (h : Ext r a w) (n : Nat) : Ext r a (w.drewN n) := h.trans
  ⟨rfl, rfl, rfl, Nat.le_refl _, fun _ _ _ => rfl⟩
theorem Ext.set {r : Option Nat} {a w : World} (h : Ext r a w) {p : Addr} (hp : a.heap.size ≤ p.block ∨ some p.block = r) (u : Value) : Ext r a (w.setCell p u) := by
  have hg : a.grownBy w r := h
  refine ⟨hg.os, hg.tape, hg.output, by simpa [World.setCell] using h.size, fun i hi hr => ?_⟩
  · refine (Below.heap_setCell w p u i ?_).trans (World.grownBy.block h i hi hr)
    rintro rfl
    rcases hp with hp | hp
    · omega
    · exact hr hp
theorem Ext.grown {r row : Option Nat} {a w w' : World} (h : Ext r a w) (hg : w.grownBy w' row) (hr : ∀ k, row = some k → a.heap.size ≤ k ∨ some k = r) : Ext r a w' :=
  ⟨hg.os.trans (World.grownBy.os h), hg.tape.trans (World.grownBy.tape h), hg.output.trans (World.grownBy.output h), Nat.le_trans h.size hg.size,
   fun i hi hne => (hg.block i (Nat.lt_of_lt_of_le hi h.size) (fun e => by
      rcases hr i e.symm with h1 | h1
      · omega
      · exact hne h1)).trans (World.grownBy.block h i hi hne)⟩
theorem Ext.draws (r : Option Nat) (w : World) (n : Nat) : Ext r w (w.drewN n) := (Ext.refl r w).drewN n
/-- A call that only reads (it may draw). -/
def Dr (w w' : World) : Prop := ∃ q, w' = w.drewN q
theorem Dr.refl (w : World) : Dr w w := ⟨0, rfl⟩
theorem Dr.trans {a b c : World} (h : Dr a b) (k : Dr b c) : Dr a c := by
  obtain ⟨q, rfl⟩ := h; obtain ⟨r, rfl⟩ := k; exact ⟨_, World.drewN_drewN _ _ _⟩
theorem Dr.drewN {a b : World} (h : Dr a b) (n : Nat) : Dr a (b.drewN n) := h.trans ⟨n, rfl⟩
theorem Dr.ext {r : Option Nat} {w w' : World} (h : Dr w w') : Ext r w w' := by obtain ⟨q, rfl⟩ := h; exact Ext.draws r w q
theorem quietR {P : Program} {f : FuncId} {args : Array Value} {w : World} {n : Nat} {v : Value}
    (h : Calls P f args (w.drewN n) fun e w' => e = .returned v ∧ Dr (w.drewN n) w') : Calls P f args (w.drewN n) fun e w'' => e = .returned v ∧ ∃ m, w'' = w.drewN m :=
  Calls.quiet_of h
theorem quietS {P : Program} {f : FuncId} {args : Array Value} {w : World} {n : Nat} {v : Value}
    (h : Calls P f args (w.drewN n) fun e w' => e = .returned v ∧ w.drewN n = w') : Calls P f args (w.drewN n) fun e w'' => e = .returned v ∧ ∃ m, w'' = w.drewN m :=
  Calls.quiet_of_same (h.mono fun _ _ ⟨a, b⟩ => ⟨a, b.symm⟩)
theorem Ext.loc {r : Nat} {a b c : World} (h : Ext none a b) (k : Ext (some r) b c) (hr : a.heap.size ≤ r) : Ext none a c :=
  Ext.grown h k (fun j hj => .inl (by cases hj; exact hr))
theorem Ext.below {w w' : World} (h : Ext none w w') : Below w.heap.size w w' :=
  ⟨World.grownBy.os h, World.grownBy.tape h, World.grownBy.output h, h.size, fun i hi => World.grownBy.block h i hi (by simp)⟩
theorem Ext.blk {r : Option Nat} {w w' : World} (h : Ext r w w') {k : Nat} {o : Obj} (hk : w.heap[k]? = some o) (hr : some k ≠ r) : w'.heap[k]? = some o :=
  (World.grownBy.block h k (Array.getElem?_eq_some_iff.1 hk).1 hr).trans hk
theorem Ext.cell {w w' : World} (h : Ext none w w') {p : Addr} {v : Value} (hc : w.cell? p = some v) : w'.cell? p = some v :=
  World.grownBy.cell h hc (by simp)
theorem Ext.frozen {w w' : World} (h : Ext none w w') {p : Addr} (hp : p.block < w.heap.size) : w'.frozen? p = w.frozen? p :=
  World.frozen?_of_block (World.grownBy.block h p.block hp (by simp))

/-- The slice value '.slice a n c' holds the cells vs. -/
def At (w : World) (a : Option Addr) (n : Nat) (vs : List Value) : Prop :=
  vs.length = n ∧ n ≤ maxLen ∧ ∀ k, k < n → ∃ b off, a = some ⟨b, off, none⟩ ∧ w.cell? ⟨b, off + k, none⟩ = vs[k]?

theorem At.len {w : World} {a : Option Addr} {n : Nat} {vs : List Value} (h : At w a n vs) : vs.length = n := h.1
theorem At.max {w : World} {a : Option Addr} {n : Nat} {vs : List Value} (h : At w a n vs) : n ≤ 9223372036854775807 := h.2.1
theorem At.ext {w w' : World} {a : Option Addr} {n : Nat} {vs : List Value} (h : At w a n vs) (hx : Ext none w w') : At w' a n vs := by
  refine ⟨h.1, h.2.1, fun k hk => ?_⟩
  obtain ⟨b, off, rfl, hc⟩ := h.2.2 k hk
  have hl : k < vs.length := by rw [h.1]; exact hk
  rw [List.getElem?_eq_getElem hl] at hc
  exact ⟨b, off, rfl, by rw [List.getElem?_eq_getElem hl]; exact hx.cell hc⟩
theorem At.cellSome {w : World} {a : Option Addr} {n : Nat} {vs : List Value} (h : At w a n vs) {k : Nat} (hk : k < n) : ∃ b off, a = some ⟨b, off, none⟩ ∧ ∃ u, vs[k]? = some u ∧ w.cell? ⟨b, off + k, none⟩ = some u := by
  obtain ⟨b, off, ha, hc⟩ := h.2.2 k hk
  have hl : k < vs.length := by rw [h.1]; exact hk
  exact ⟨b, off, ha, vs[k], List.getElem?_eq_getElem hl, by rw [hc, List.getElem?_eq_getElem hl]⟩
theorem At.nil (w : World) (a : Option Addr) : At w a 0 [] := ⟨rfl, by simp [maxLen], fun k hk => absurd hk (by omega)⟩

/-- A slice of int. -/
def Ints (w : World) (a : Option Addr) (n : Nat) (xs : List Int) : Prop := At w a n (xs.map (Value.int .i64))
theorem Ints.len {w : World} {a : Option Addr} {n : Nat} {xs : List Int} (h : Ints w a n xs) : xs.length = n := by simpa using h.1
theorem Ints.max {w : World} {a : Option Addr} {n : Nat} {xs : List Int} (h : Ints w a n xs) : n ≤ 9223372036854775807 := At.max h
theorem Ints.ext {w w' : World} {a : Option Addr} {n : Nat} {xs : List Int} (h : Ints w a n xs) (hx : Ext none w w') : Ints w' a n xs := At.ext h hx
theorem Ints.nil (w : World) (a : Option Addr) : Ints w a 0 [] := At.nil w a
theorem Ints.cell {w : World} {a : Option Addr} {n : Nat} {xs : List Int} (h : Ints w a n xs) {k : Nat} (hk : k < n) :
    ∃ b off, a = some ⟨b, off, none⟩ ∧ w.cell? ⟨b, off + k, none⟩ = some (.int .i64 (xs.getD k 0)) := by
  obtain ⟨b, off, ha, hc⟩ := h.2.2 k hk
  have hl : k < xs.length := by rw [h.len]; exact hk
  exact ⟨b, off, ha, by rw [hc]; simp [List.getD, hl]⟩
/-- With the address known. -/
theorem Ints.cellAt {w : World} {b off n : Nat} {xs : List Int} (h : Ints w (some ⟨b, off, none⟩) n xs) {k : Nat} (hk : k < n) :
    w.cell? ⟨b, off + k, none⟩ = some (.int .i64 (xs.getD k 0)) := by
  obtain ⟨b', off', ha, hc⟩ := h.cell hk
  simp only [Option.some.injEq, Addr.mk.injEq, and_true] at ha
  obtain ⟨rfl, rfl⟩ := ha
  exact hc

/-- The slice '.slice a n c' of the call's own: its row lies from block B on. -/
def Own (w : World) (B e : Nat) (a : Option Addr) (n c : Nat) (vs : List Value) : Prop := w.ownsRow B e 1 (.slice a n c) n vs

theorem Own.at_ {w : World} {B e : Nat} {a : Option Addr} {n c : Nat} {vs : List Value} (h : Own w B e a n c vs) : At w a n vs := by
  obtain ⟨hl, h⟩ := h
  rcases h with ⟨hv, rfl⟩ | ⟨g, cap, cur, hv, hB, hg, hn, hc, hs, ht⟩
  · exact ⟨by simpa using hl, by simp [maxLen], fun k hk => absurd hk (by omega)⟩
  · injection hv with ha _ hcap
    subst ha hcap
    refine ⟨by simpa using hl, by omega, fun k hk => ⟨g, 0, rfl, ?_⟩⟩
    simp only [Nat.mul_one] at ht hs
    rw [cell_of_row w g (0 + k) cur e (0, 0) hg, ← ht, List.getElem?_take, if_pos hk]
    simp
theorem Own.len {w : World} {B e : Nat} {a : Option Addr} {n c : Nat} {vs : List Value} (h : Own w B e a n c vs) : vs.length = n := h.at_.len
theorem Own.mono {w : World} {B B' e : Nat} {a : Option Addr} {n c : Nat} {vs : List Value} (h : Own w B e a n c vs) (hB : B' ≤ B) : Own w B' e a n c vs := by
  refine ⟨h.1, ?_⟩
  rcases h.2 with hv | ⟨g, cap, cur, hv, hg, r⟩
  · exact .inl hv
  · exact .inr ⟨g, cap, cur, hv, Nat.le_trans hB hg, r⟩
theorem Own.ext {w w' : World} {B e : Nat} {a : Option Addr} {n c : Nat} {vs : List Value} {r : Option Nat} (h : Own w B e a n c vs) (hx : Ext r w w') (hr : ∀ k, r = some k → k < B) : Own w' B e a n c vs := by
  refine World.ownsRow.kept h hx ?_
  cases hv : (Value.slice a n c).ownBlock with
  | none => exact .inl rfl
  | some k =>
    refine .inr fun he => ?_
    have h1 := (World.ownsRow.lt h k hv).1
    have h2 := hr k he.symm
    omega
theorem Own.ext0 {w w' : World} {B e : Nat} {a : Option Addr} {n c : Nat} {vs : List Value} (h : Own w B e a n c vs) (hx : Ext none w w') : Own w' B e a n c vs := h.ext hx (by simp)
theorem Own.nil (w : World) (B e : Nat) : Own w B e none 0 0 [] := World.ownsRow_nil w B e 1
theorem Own.alloc {w : World} {B e : Nat} {a : Option Addr} {n c : Nat} {vs : List Value} (h : Own w B e a n c vs) (o : Obj) : Own (w.alloc o) B e a n c vs := World.ownsRow.alloc h o

def OwnI (w : World) (B : Nat) (a : Option Addr) (n c : Nat) (xs : List Int) : Prop := Own w B 3 a n c (xs.map (Value.int .i64))
theorem OwnI.ints {w : World} {B : Nat} {a : Option Addr} {n c : Nat} {xs : List Int} (h : OwnI w B a n c xs) : Ints w a n xs := Own.at_ h
theorem OwnI.len {w : World} {B : Nat} {a : Option Addr} {n c : Nat} {xs : List Int} (h : OwnI w B a n c xs) : xs.length = n := h.ints.len
theorem OwnI.mono {w : World} {B B' : Nat} {a : Option Addr} {n c : Nat} {xs : List Int} (h : OwnI w B a n c xs) (hB : B' ≤ B) : OwnI w B' a n c xs := Own.mono h hB
theorem OwnI.ext {w w' : World} {B : Nat} {a : Option Addr} {n c : Nat} {xs : List Int} {r : Option Nat} (h : OwnI w B a n c xs) (hx : Ext r w w') (hr : ∀ k, r = some k → k < B) : OwnI w' B a n c xs := Own.ext h hx hr
theorem OwnI.ext0 {w w' : World} {B : Nat} {a : Option Addr} {n c : Nat} {xs : List Int} (h : OwnI w B a n c xs) (hx : Ext none w w') : OwnI w' B a n c xs := Own.ext0 h hx
theorem OwnI.nil (w : World) (B : Nat) : OwnI w B none 0 0 [] := Own.nil w B _

/-- '[]int{}'. -/
theorem OwnI.made (w : World) : OwnI (w.alloc (.cells #[] 3)) w.heap.size (some ⟨w.heap.size, 0, none⟩) 0 0 [] := World.ownsRow_made w #[] 0 (Nat.le_refl _) (by simp [maxLen]) rfl
/-- What a function that returns a slice of int in new memory leaves. -/
def RI (w : World) (r : Option Nat) (xs : List Int) (e : Ending) (w' : World) : Prop :=
  ∃ a n c, e = .returned (.slice a n c) ∧ OwnI w' w.heap.size a n c xs ∧ Ext r w w'

theorem intInfo : (Try.prog.info? 3).map (fun i => (i.zero, i.size, i.bytes)) = some (some (.int .i64 0), 1, 8) := by kernel_rfl

/-- 'out = append(out, x)', out a row of the call's own, one element; and where the row lies then. -/
theorem append1_at {P : Program} (w : World) {ops : Array Oper} {rest : List Oper} {o : Oper} {a : Act} {Q : Exit → Act → World → Prop} (hgd : o.guard = none) (s x : Operand) (t : TypeId)
    (ho : o.op = .call { callee := .builtin .append, args := #[s, x], argTypes := #[t, t] })
    (B e : Nat) (i : TypeInfo) (z : Value) (bytes : Nat) (ht : P.underlying t = some (.slice e)) (hi : P.info? e = some i) (hz : i.zero = some z)
    (hsize : i.size = 1) (hby : i.bytes = bytes) (hzs : z.cells.size = 1)
    (ad : Option Addr) (n c : Nat) (vs : List Value) (hs : a.eval s = .slice ad n c) (hown : Own w B e ad n c vs)
    (u : Value) (hx : a.eval x = .slice (some ⟨w.heap.size, 0, none⟩) 1 1) (h1 : u.oneCell' = true) (hlen : n + 1 ≤ 1000000) (hb : bytes ≤ 1000) (hB : B ≤ w.heap.size)
    (h : ∀ g c' w', Own w' B e (some ⟨g, 0, none⟩) (n + 1) c' (vs ++ [u]) → w.grownBy w' (Value.slice ad n c).ownBlock → (some g = (Value.slice ad n c).ownBlock ∨ g = w.heap.size + 1) →
      wpList P ops Q rest (a.put o.dst (.slice (some ⟨g, 0, none⟩) (n + 1) c')) w') :
    wpList P ops Q (o :: rest) a (w.alloc (.cells #[u] e)) := by
  have hmul : (n + 1) * bytes ≤ 1000000 * 1000 := Nat.mul_le_mul hlen hb
  refine wpList_append_own_at _ hgd s x t ho B e i z 1 bytes ht hi hz hsize hby hzs (by decide) _ n vs hs (World.ownsRow.alloc hown _) ⟨w.heap.size, 0, none⟩ 1 1 [u] hx rfl (cell_one_new _ _ _)
    (by intro v hv; simp at hv; subst hv; exact h1) (by simp only [maxLen]; omega) (by omega) (by simp; omega) ?_
  intro v' w' hown' hg _ hat
  obtain ⟨g, cap, hv⟩ : ∃ g cap, v' = .slice (some ⟨g, 0, none⟩) (n + 1) cap := by
    rcases hown'.2 with ⟨_, h0⟩ | ⟨g, cap, _, rfl, _⟩
    · omega
    · exact ⟨g, cap, rfl⟩
  subst hv
  have h0 := World.grownBy_alloc w (.cells #[u] e) (Value.slice ad n c).ownBlock
  refine h g cap w' hown' ⟨hg.os.trans h0.os, hg.tape.trans h0.tape, hg.output.trans h0.output, Nat.le_trans h0.size hg.size, fun i hi hne => (hg.block i (Nat.lt_of_lt_of_le hi h0.size) hne).trans (h0.block i hi hne)⟩ ?_
  rcases hat with e | e
  · exact .inl e
  · exact .inr (by simpa [Value.ownBlock] using e)

/-- 'out = append(out, x)', out a row of the call's own, one element. -/
theorem append1 {P : Program} (w : World) {ops : Array Oper} {rest : List Oper} {o : Oper} {a : Act} {Q : Exit → Act → World → Prop} (hgd : o.guard = none) (s x : Operand) (t : TypeId)
    (ho : o.op = .call { callee := .builtin .append, args := #[s, x], argTypes := #[t, t] })
    (B e : Nat) (i : TypeInfo) (z : Value) (bytes : Nat) (ht : P.underlying t = some (.slice e)) (hi : P.info? e = some i) (hz : i.zero = some z)
    (hsize : i.size = 1) (hby : i.bytes = bytes) (hzs : z.cells.size = 1)
    (ad : Option Addr) (n c : Nat) (vs : List Value) (hs : a.eval s = .slice ad n c) (hown : Own w B e ad n c vs)
    (u : Value) (hx : a.eval x = .slice (some ⟨w.heap.size, 0, none⟩) 1 1) (h1 : u.oneCell' = true) (hlen : n + 1 ≤ 1000000) (hb : bytes ≤ 1000) (hB : B ≤ w.heap.size)
    (h : ∀ g c' w', Own w' B e (some ⟨g, 0, none⟩) (n + 1) c' (vs ++ [u]) → w.grownBy w' (Value.slice ad n c).ownBlock → wpList P ops Q rest (a.put o.dst (.slice (some ⟨g, 0, none⟩) (n + 1) c')) w') :
    wpList P ops Q (o :: rest) a (w.alloc (.cells #[u] e)) :=
  append1_at w hgd s x t ho B e i z bytes ht hi hz hsize hby hzs ad n c vs hs hown u hx h1 hlen hb hB fun g c' w' h1 h2 _ => h g c' w' h1 h2

theorem Own.block {w : World} {B e : Nat} {a : Option Addr} {n c : Nat} {vs : List Value} (h : Own w B e a n c vs) : ∀ k, (Value.slice a n c).ownBlock = some k → B ≤ k := fun k hk => (World.ownsRow.lt h k hk).1

/-- The same at a slice of int. -/
theorem app_int (w : World) {ops : Array Oper} {rest : List Oper} {o : Oper} {a : Act} {Q : Exit → Act → World → Prop} (hgd : o.guard = none) (s x : Operand)
    (ho : o.op = .call { callee := .builtin .append, args := #[s, x], argTypes := #[24, 24] })
    (B : Nat) (ad : Option Addr) (n c : Nat) (xs : List Int) (hown : OwnI w B ad n c xs) (y : Int) (hs : a.eval s = .slice ad n c)
    (hx : a.eval x = .slice (some ⟨w.heap.size, 0, none⟩) 1 1) (hlen : n + 1 ≤ 1000000) (hB : B ≤ w.heap.size)
    (h : ∀ g c' w', OwnI w' B (some ⟨g, 0, none⟩) (n + 1) c' (xs ++ [y]) → w.grownBy w' (Value.slice ad n c).ownBlock → wpList Try.prog ops Q rest (a.put o.dst (.slice (some ⟨g, 0, none⟩) (n + 1) c')) w') :
    wpList Try.prog ops Q (o :: rest) a (w.alloc (.cells #[.int .i64 y] 3)) := by
  obtain ⟨i0, hi, hz0, hz1, hz2⟩ := info_parts intInfo
  refine append1 w hgd s x 24 ho B 3 i0 (.int .i64 0) 8 Try.underlying24 hi hz0 hz1 hz2 rfl ad n c _ hs hown (.int .i64 y) hx rfl hlen (by decide) hB ?_
  intro g c' w' h1 h2
  exact h g c' w' (by simpa [OwnI, List.map_append] using h1) h2
end Go.Proofs.Ytnlmcbilhfmenaa
