/- Words for memory: families (slices of slices of int) and slices of masks. No program text. Conditions: each lemma's own. -/
import Derived.Test.YtnlmcbilhfmenaaW
import Derived.Laws.AppendOwnNone
namespace Go.Proofs.Ytnlmcbilhfmenaa
open Go.RowKit
set_option linter.unusedVariables false

/-- The value v leads to a slice of int that reads xs; its cells lie from block R on, and not in block r. -/
def RowI (w : World) (r : Option Nat) (R : Nat) (v : Value) (xs : List Int) : Prop :=
  ∃ a n c, v = .slice a n c ∧ Ints w a n xs ∧ ∀ p, a = some p → 0 < n → r ≠ some p.block ∧ R ≤ p.block
theorem Ints.block_lt {w : World} {a : Option Addr} {n : Nat} {xs : List Int} (h : Ints w a n xs) {p : Addr} (ha : a = some p) (hn : 0 < n) : p.block < w.heap.size := by
  obtain ⟨b, off, ha', hc⟩ := h.cell hn
  rw [ha] at ha'
  injection ha' with e
  subst e
  exact World.block_lt_of_cell? w _ hc
theorem Ints.grown {w w' : World} {a : Option Addr} {n : Nat} {xs : List Int} {r : Option Nat} (h : Ints w a n xs) (hg : w.grownBy w' r) (hr : ∀ p, a = some p → 0 < n → r ≠ some p.block) : Ints w' a n xs := by
  refine ⟨h.1, h.2.1, fun k hk => ?_⟩
  obtain ⟨b, off, ha, u, hu, hc⟩ := At.cellSome h hk
  subst ha
  refine ⟨b, off, rfl, ?_⟩
  rw [hu]
  exact World.grownBy.cell hg hc (fun e => hr _ rfl (by omega) e.symm)
theorem RowI.ext {w w' : World} {r : Option Nat} {R : Nat} {v : Value} {xs : List Int} (h : RowI w r R v xs) (hx : Ext none w w') : RowI w' r R v xs := by
  obtain ⟨a, n, c, hv, hi, h⟩ := h
  exact ⟨a, n, c, hv, hi.ext hx, h⟩
theorem RowI.low {w : World} {r : Option Nat} {R R' : Nat} {v : Value} {xs : List Int} (h : RowI w r R v xs) (hR : R' ≤ R) : RowI w r R' v xs := by
  obtain ⟨a, n, c, hv, hi, h⟩ := h
  exact ⟨a, n, c, hv, hi, fun p hp hn => ⟨(h p hp hn).1, Nat.le_trans hR (h p hp hn).2⟩⟩
theorem RowI.any {w : World} {r : Option Nat} {R : Nat} {v : Value} {xs : List Int} (h : RowI w r R v xs) : RowI w none 0 v xs := by
  obtain ⟨a, n, c, hv, hi, h⟩ := h
  exact ⟨a, n, c, hv, hi, fun p hp hn => ⟨by simp, by omega⟩⟩
theorem RowI.grown {w w' : World} {r q s : Option Nat} {R : Nat} {v : Value} {xs : List Int} (h : RowI w r R v xs) (hg : w.grownBy w' s) (hs : s = r ∨ ∃ k, s = some k ∧ k < R) (hq : q = r ∨ ∃ k, q = some k ∧ w.heap.size ≤ k) : RowI w' q R v xs := by
  obtain ⟨a, n, c, hv, hi, h⟩ := h
  refine ⟨a, n, c, hv, hi.grown hg (fun p hp hn => ?_), fun p hp hn => ⟨?_, (h p hp hn).2⟩⟩
  · rcases hs with rfl | ⟨k, rfl, hk⟩
    · exact (h p hp hn).1
    · have := (h p hp hn).2
      intro e; injection e with e; omega
  · rcases hq with rfl | ⟨k, rfl, hk⟩
    · exact (h p hp hn).1
    · have := hi.block_lt hp hn
      intro e; injection e with e; omega
theorem Ints.row {w : World} {a : Option Addr} {n c : Nat} {xs : List Int} (h : Ints w a n xs) : RowI w none 0 (.slice a n c) xs := ⟨a, n, c, rfl, h, fun p _ _ => ⟨by simp, by omega⟩⟩
/-- a slice of memory that came later than block r -/
theorem OwnI.row {w : World} {B R a n c} {r : Option Nat} {xs : List Int} (h : OwnI w B a n c xs) (hr : ∀ k, r = some k → k < B) (hR : R ≤ B) : RowI w r R (.slice a n c) xs := by
  refine ⟨a, n, c, rfl, h.ints, fun p hp hn => ?_⟩
  subst hp
  have hB : B ≤ p.block := by
    rcases h.2 with ⟨hv, h0⟩ | ⟨g, cap, cur, hv, hB, _⟩
    · omega
    · injection hv with ha _ _
      injection ha with ha
      subst ha; exact hB
  refine ⟨fun e => ?_, Nat.le_trans hR hB⟩
  have := hr _ e; omega

/-- The values vs lead to the lists f. -/
def Rows (w : World) (r : Option Nat) (R : Nat) (vs : List Value) (f : List (List Int)) : Prop :=
  vs.length = f.length ∧ ∀ (k : Nat) v xs, vs[k]? = some v → f[k]? = some xs → RowI w r R v xs
theorem Rows.nil (w : World) (r : Option Nat) (R : Nat) : Rows w r R [] [] := ⟨rfl, fun k v xs h => by simp at h⟩
theorem Rows.imp {w w' : World} {r r' : Option Nat} {R R' : Nat} {vs : List Value} {f : List (List Int)} (h : Rows w r R vs f) (hi : ∀ v xs, RowI w r R v xs → RowI w' r' R' v xs) : Rows w' r' R' vs f :=
  ⟨h.1, fun k v xs hv hx => hi v xs (h.2 k v xs hv hx)⟩
theorem Rows.snoc {w : World} {r : Option Nat} {R : Nat} {vs : List Value} {f : List (List Int)} {v : Value} {xs : List Int} (h : Rows w r R vs f) (hv : RowI w r R v xs) : Rows w r R (vs ++ [v]) (f ++ [xs]) := by
  refine ⟨by simp [h.1], fun k u ys hu hy => ?_⟩
  by_cases hk : k < vs.length
  · rw [List.getElem?_append_left hk] at hu
    rw [List.getElem?_append_left (by rw [← h.1]; exact hk)] at hy
    exact h.2 k u ys hu hy
  · rw [List.getElem?_append_right (by omega)] at hu
    rw [List.getElem?_append_right (by rw [← h.1]; omega), ← h.1] at hy
    by_cases h0 : k - vs.length = 0
    · rw [h0] at hu hy
      simp at hu hy
      subst hu hy; exact hv
    · obtain ⟨j, hj⟩ : ∃ j, k - vs.length = j + 1 := ⟨k - vs.length - 1, by omega⟩
      rw [hj] at hu
      simp at hu
theorem Rows.app {w : World} {r : Option Nat} {R : Nat} {vs us : List Value} {f g : List (List Int)} (h : Rows w r R vs f) (k : Rows w r R us g) : Rows w r R (vs ++ us) (f ++ g) := by
  refine ⟨by simp [h.1, k.1], fun j u ys hu hy => ?_⟩
  by_cases hj : j < vs.length
  · rw [List.getElem?_append_left hj] at hu
    rw [List.getElem?_append_left (by rw [← h.1]; exact hj)] at hy
    exact h.2 j u ys hu hy
  · rw [List.getElem?_append_right (by omega)] at hu
    rw [List.getElem?_append_right (by rw [← h.1]; omega), ← h.1] at hy
    exact k.2 _ u ys hu hy
theorem Rows.cut {w : World} {r : Option Nat} {R : Nat} {vs : List Value} {f : List (List Int)} (h : Rows w r R vs f) (i j : Nat) : Rows w r R ((vs.take j).drop i) ((f.take j).drop i) := by
  refine ⟨by simp [h.1], fun k u ys hu hy => ?_⟩
  rw [List.getElem?_drop, List.getElem?_take] at hu hy
  split at hu
  · rename_i hlt
    rw [if_pos hlt] at hy
    exact h.2 _ u ys hu hy
  · cases hu

/-- A slice of slices of int that reads f. -/
def Fam (w : World) (a : Option Addr) (n : Nat) (f : List (List Int)) : Prop := ∃ vs, At w a n vs ∧ Rows w none 0 vs f
theorem Fam.len {w : World} {a : Option Addr} {n : Nat} {f : List (List Int)} (h : Fam w a n f) : f.length = n := by
  obtain ⟨vs, h1, h2⟩ := h; rw [← h2.1, h1.len]
theorem Fam.max {w : World} {a : Option Addr} {n : Nat} {f : List (List Int)} (h : Fam w a n f) : n ≤ 9223372036854775807 := by
  obtain ⟨vs, h1, h2⟩ := h; exact h1.max
theorem Fam.ext {w w' : World} {a : Option Addr} {n : Nat} {f : List (List Int)} (h : Fam w a n f) (hx : Ext none w w') : Fam w' a n f := by
  obtain ⟨vs, h1, h2⟩ := h; exact ⟨vs, h1.ext hx, h2.imp fun _ _ hr => hr.ext hx⟩
theorem Fam.cell {w : World} {a : Option Addr} {n : Nat} {f : List (List Int)} (h : Fam w a n f) {k : Nat} (hk : k < n) :
    ∃ b off a2 n2 c2, a = some ⟨b, off, none⟩ ∧ w.cell? ⟨b, off + k, none⟩ = some (.slice a2 n2 c2) ∧ Ints w a2 n2 (f.getD k []) := by
  have hl := h.len
  obtain ⟨vs, h1, h2⟩ := h
  obtain ⟨b, off, ha, u, hu, hc⟩ := h1.cellSome hk
  have hf : f[k]? = some (f.getD k []) := by rw [List.getElem?_eq_getElem (by omega)]; simp [List.getD, List.getElem?_eq_getElem (show k < f.length by omega)]
  obtain ⟨a2, n2, c2, rfl, hi, _⟩ := h2.2 k u _ hu hf
  exact ⟨b, off, a2, n2, c2, ha, hc, hi⟩
theorem Fam.cellAt {w : World} {b off n : Nat} {f : List (List Int)} (h : Fam w (some ⟨b, off, none⟩) n f) {k : Nat} (hk : k < n) :
    ∃ a2 n2 c2, w.cell? ⟨b, off + k, none⟩ = some (.slice a2 n2 c2) ∧ Ints w a2 n2 (f.getD k []) := by
  obtain ⟨b', off', a2, n2, c2, ha, hc, hi⟩ := h.cell hk
  simp only [Option.some.injEq, Addr.mk.injEq, and_true] at ha
  obtain ⟨rfl, rfl⟩ := ha
  exact ⟨a2, n2, c2, hc, hi⟩
theorem Fam.nil (w : World) (a : Option Addr) : Fam w a 0 [] := ⟨[], At.nil w a, Rows.nil w _ _⟩

/-- The call's own slice of slices: its row lies from block B on, the rows of its sets from R on and beside it. -/
def OwnF (w : World) (B R : Nat) (a : Option Addr) (n c : Nat) (f : List (List Int)) : Prop :=
  ∃ vs, Own w B 24 a n c vs ∧ Rows w (Value.slice a n c).ownBlock R vs f
theorem OwnF.fam {w : World} {B R : Nat} {a : Option Addr} {n c : Nat} {f : List (List Int)} (h : OwnF w B R a n c f) : Fam w a n f := by
  obtain ⟨vs, h1, h2⟩ := h; exact ⟨vs, h1.at_, h2.imp fun _ _ hr => hr.any⟩
theorem OwnF.len {w : World} {B R : Nat} {a : Option Addr} {n c : Nat} {f : List (List Int)} (h : OwnF w B R a n c f) : f.length = n := h.fam.len
theorem OwnF.mono {w : World} {B B' R R' : Nat} {a : Option Addr} {n c : Nat} {f : List (List Int)} (h : OwnF w B R a n c f) (hB : B' ≤ B) (hR : R' ≤ R) : OwnF w B' R' a n c f := by
  obtain ⟨vs, h1, h2⟩ := h; exact ⟨vs, h1.mono hB, h2.imp fun _ _ hr => hr.low hR⟩
theorem OwnF.ext0 {w w' : World} {B R : Nat} {a : Option Addr} {n c : Nat} {f : List (List Int)} (h : OwnF w B R a n c f) (hx : Ext none w w') : OwnF w' B R a n c f := by
  obtain ⟨vs, h1, h2⟩ := h; exact ⟨vs, h1.ext0 hx, h2.imp fun _ _ hr => hr.ext hx⟩
theorem OwnF.ext {w w' : World} {B R : Nat} {a : Option Addr} {n c : Nat} {f : List (List Int)} {r : Option Nat} (h : OwnF w B R a n c f) (hx : Ext r w w') (hr : ∀ k, r = some k → k < B ∧ k < R) : OwnF w' B R a n c f := by
  obtain ⟨vs, h1, h2⟩ := h
  refine ⟨vs, h1.ext hx (fun k hk => (hr k hk).1), ?_⟩
  cases r with
  | none => exact h2.imp fun _ _ hv => hv.ext hx
  | some k => exact h2.imp fun _ _ hv => hv.grown hx (.inr ⟨k, rfl, (hr k rfl).2⟩) (.inl rfl)
theorem OwnF.block {w : World} {B R : Nat} {a : Option Addr} {n c : Nat} {f : List (List Int)} (h : OwnF w B R a n c f) : ∀ k, (Value.slice a n c).ownBlock = some k → B ≤ k := by
  obtain ⟨vs, h1, h2⟩ := h; exact h1.block
theorem OwnF.blockLt {w : World} {B R : Nat} {a : Option Addr} {n c : Nat} {f : List (List Int)} (h : OwnF w B R a n c f) : ∀ k, (Value.slice a n c).ownBlock = some k → k < w.heap.size := by
  obtain ⟨vs, h1, h2⟩ := h; exact fun k hk => (World.ownsRow.lt h1 k hk).2
theorem OwnF.nil (w : World) (B R : Nat) : OwnF w B R none 0 0 [] := ⟨[], Own.nil w B _, Rows.nil w _ _⟩
/-- '[][]int{}'. -/
theorem OwnF.made (w : World) (R : Nat) : OwnF (w.alloc (.cells #[] 24)) w.heap.size R (some ⟨w.heap.size, 0, none⟩) 0 0 [] :=
  ⟨[], World.ownsRow_made w #[] 0 (Nat.le_refl _) (by simp [maxLen]) rfl, Rows.nil _ _ _⟩
/-- What a function that returns a family in new memory leaves. -/
def RF (w : World) (f : List (List Int)) (e : Ending) (w' : World) : Prop :=
  ∃ a n c, e = .returned (.slice a n c) ∧ OwnF w' w.heap.size w.heap.size a n c f ∧ Ext none w w'
def RFB (w : World) (f : List (List Int)) (b : Bool) (e : Ending) (w' : World) : Prop :=
  ∃ a n c, e = .returned (.tuple #[.slice a n c, .bool b]) ∧ OwnF w' w.heap.size w.heap.size a n c f ∧ Ext none w w'

theorem rowInfo : (Try.prog.info? 24).map (fun i => (i.zero, i.size, i.bytes)) = some (some (.slice none 0 0), 1, 24) := by kernel_rfl

/-- 'out = append(out, s)'. -/
theorem app_row (w : World) {ops : Array Oper} {rest : List Oper} {o : Oper} {a : Act} {Q : Exit → Act → World → Prop} (hgd : o.guard = none) (s x : Operand)
    (ho : o.op = .call { callee := .builtin .append, args := #[s, x], argTypes := #[22, 22] })
    (B R : Nat) (ad : Option Addr) (n c : Nat) (f : List (List Int)) (hown : OwnF w B R ad n c f) (sa : Option Addr) (sn sc : Nat) (xs : List Int) (hv : RowI w (Value.slice ad n c).ownBlock R (.slice sa sn sc) xs) (hs : a.eval s = .slice ad n c)
    (hx : a.eval x = .slice (some ⟨w.heap.size, 0, none⟩) 1 1) (hlen : n + 1 ≤ 1000000) (hB : B ≤ w.heap.size)
    (h : ∀ g c' w', OwnF w' B R (some ⟨g, 0, none⟩) (n + 1) c' (f ++ [xs]) → w.grownBy w' (Value.slice ad n c).ownBlock → wpList Try.prog ops Q rest (a.put o.dst (.slice (some ⟨g, 0, none⟩) (n + 1) c')) w') :
    wpList Try.prog ops Q (o :: rest) a (w.alloc (.cells #[.slice sa sn sc] 24)) := by
  obtain ⟨i0, hi, hz0, hz1, hz2⟩ := info_parts rowInfo
  obtain ⟨vs, h1, h2⟩ := hown
  refine append1_at w hgd s x 22 ho B 24 i0 (.slice none 0 0) 24 Try.underlying22 hi hz0 hz1 hz2 rfl ad n c vs hs h1 (.slice sa sn sc) hx rfl hlen (by decide) hB ?_
  intro g c' w' k1 k2 k3
  refine h g c' w' ⟨_, k1, (h2.snoc hv).imp fun v ys hr => hr.grown k2 (.inl rfl) ?_⟩ k2
  rcases k3 with e | e
  · exact .inl (by rw [← e]; rfl)
  · exact .inr ⟨g, rfl, by omega⟩
end Go.Proofs.Ytnlmcbilhfmenaa
