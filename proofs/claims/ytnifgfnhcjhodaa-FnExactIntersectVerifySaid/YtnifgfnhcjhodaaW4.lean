/- Words for memory: families whose rows lie each in a block of its own, for the laws that mark what a call returned. No program text. Conditions: each lemma's own. -/
import Derived.Test.YtnifgfnhcjhodaaPW
import Derived.Test.YtnifgfnhcjhodaaX1
namespace Go.Proofs.Ytnifgfnhcjhodaa
open Go.RowKit
set_option linter.unusedVariables false

/-- Only blocks from lo to hi have turned. -/
def Chg (lo hi : Nat) (w w' : World) : Prop :=
  w'.os = w.os ∧ w'.tape = w.tape ∧ w'.output = w.output ∧ w.heap.size ≤ w'.heap.size ∧ ∀ i, i < w.heap.size → (i < lo ∨ hi ≤ i) → w'.heap[i]? = w.heap[i]?
theorem Chg.refl (lo hi : Nat) (w : World) : Chg lo hi w w := ⟨rfl, rfl, rfl, Nat.le_refl _, fun _ _ _ => rfl⟩
theorem Chg.trans {lo hi : Nat} {a b c : World} (h : Chg lo hi a b) (k : Chg lo hi b c) : Chg lo hi a c :=
  ⟨k.1.trans h.1, k.2.1.trans h.2.1, k.2.2.1.trans h.2.2.1, Nat.le_trans h.2.2.2.1 k.2.2.2.1, fun i hi' hr => (k.2.2.2.2 i (Nat.lt_of_lt_of_le hi' h.2.2.2.1) hr).trans (h.2.2.2.2 i hi' hr)⟩
theorem Chg.of_grown {lo hi : Nat} {w w' : World} {r : Option Nat} (h : w.grownBy w' r) (hr : ∀ g, r = some g → lo ≤ g ∧ g < hi) : Chg lo hi w w' :=
  ⟨h.os, h.tape, h.output, h.size, fun i hi' hx => h.block i hi' (fun e => by have := hr i e.symm; omega)⟩
theorem Chg.ext {lo hi : Nat} {w0 w w' : World} (hx : Ext none w0 w) (h : Chg lo hi w w') (hlo : w0.heap.size ≤ lo) : Ext none w0 w' :=
  ⟨h.1.trans (World.grownBy.os hx), h.2.1.trans (World.grownBy.tape hx), h.2.2.1.trans (World.grownBy.output hx), Nat.le_trans hx.size h.2.2.2.1,
   fun i hi' _ => (h.2.2.2.2 i (Nat.lt_of_lt_of_le hi' hx.size) (.inl (by omega))).trans (World.grownBy.block hx i hi' (by simp))⟩
/-- a row whose block has not turned -/
theorem Own.same {w w' : World} {B e : Nat} {a : Option Addr} {n c : Nat} {vs : List Value} (h : Own w B e a n c vs) (hb : ∀ g, (Value.slice a n c).ownBlock = some g → w'.heap[g]? = w.heap[g]?) : Own w' B e a n c vs := by
  refine ⟨h.1, ?_⟩
  rcases h.2 with hv | ⟨g, cap, cur, hv, hg, hcell, r⟩
  · exact .inl hv
  · refine .inr ⟨g, cap, cur, hv, hg, ?_, r⟩
    rw [hb g (by rw [hv]; rfl)]; exact hcell
theorem OwnI.chg {w w' : World} {B lo hi : Nat} {a : Option Addr} {n c : Nat} {xs : List Int} (h : OwnI w B a n c xs) (hc : Chg lo hi w w') (hB : hi ≤ B) : OwnI w' B a n c xs :=
  Own.same h fun g hg => hc.2.2.2.2 g (World.ownsRow.lt h g hg).2 (.inr (Nat.le_trans hB (World.ownsRow.lt h g hg).1))

/-- a row of a family: it lies alone in a block below hi that is not r -/
def RowG (w : World) (lo hi : Nat) (r : Option Nat) (v : Value) (xs : List Int) : Prop :=
  ∃ a n c, v = .slice a n c ∧ OwnI w lo a n c xs ∧ ∀ g, v.ownBlock = some g → g < hi ∧ r ≠ some g
/-- a family in memory of the call's own, each row in a block of its own, the blocks ascending -/
def OwnG (w : World) (lo hi : Nat) (a : Option Addr) (n c : Nat) (f : List (List Int)) : Prop :=
  ∃ vs, Own w lo 26 a n c vs ∧ vs.length = f.length ∧ (∀ (k : Nat) v xs, vs[k]? = some v → f[k]? = some xs → RowG w lo hi (Value.slice a n c).ownBlock v xs) ∧
    (∀ (j k : Nat) u v g g', j < k → vs[j]? = some u → vs[k]? = some v → u.ownBlock = some g → v.ownBlock = some g' → g < g') ∧ (∀ g, (Value.slice a n c).ownBlock = some g → g < hi)
theorem RowG.same {w w' : World} {lo hi : Nat} {r : Option Nat} {v : Value} {xs : List Int} (h : RowG w lo hi r v xs) (hb : ∀ g, v.ownBlock = some g → w'.heap[g]? = w.heap[g]?) : RowG w' lo hi r v xs := by
  obtain ⟨a, n, c, rfl, h1, h2⟩ := h
  exact ⟨a, n, c, rfl, Own.same h1 hb, h2⟩
theorem RowG.lt {w : World} {lo hi : Nat} {r : Option Nat} {v : Value} {xs : List Int} (h : RowG w lo hi r v xs) : ∀ g, v.ownBlock = some g → lo ≤ g ∧ g < w.heap.size := by
  obtain ⟨a, n, c, rfl, h1, h2⟩ := h
  exact fun g hg => World.ownsRow.lt h1 g hg
theorem OwnG.same {w w' : World} {lo hi : Nat} {a : Option Addr} {n c : Nat} {f : List (List Int)} (h : OwnG w lo hi a n c f) (hb : ∀ g, lo ≤ g → g < w.heap.size → w'.heap[g]? = w.heap[g]?) : OwnG w' lo hi a n c f := by
  obtain ⟨vs, h1, h2, h3, h4, h5⟩ := h
  refine ⟨vs, Own.same h1 (fun g hg => ?_), h2, fun k v xs hv hx => (h3 k v xs hv hx).same (fun g hg => ?_), h4, h5⟩
  · exact hb g (World.ownsRow.lt h1 g hg).1 (World.ownsRow.lt h1 g hg).2
  · exact hb g ((h3 k v xs hv hx).lt g hg).1 ((h3 k v xs hv hx).lt g hg).2
theorem OwnG.ext0 {w w' : World} {lo hi : Nat} {a : Option Addr} {n c : Nat} {f : List (List Int)} (h : OwnG w lo hi a n c f) (hx : Ext none w w') : OwnG w' lo hi a n c f :=
  h.same fun g _ hg => World.grownBy.block hx g hg (by simp)
theorem OwnG.chg {w w' : World} {lo hi lo' hi' : Nat} {a : Option Addr} {n c : Nat} {f : List (List Int)} (h : OwnG w lo hi a n c f) (hc : Chg lo' hi' w w') (hB : hi' ≤ lo) : OwnG w' lo hi a n c f :=
  h.same fun g hg hlt => hc.2.2.2.2 g hlt (.inr (Nat.le_trans hB hg))
theorem OwnG.len {w : World} {lo hi : Nat} {a : Option Addr} {n c : Nat} {f : List (List Int)} (h : OwnG w lo hi a n c f) : f.length = n := by
  obtain ⟨vs, h1, h2, _⟩ := h; rw [← h2]; exact h1.len
theorem OwnG.low {w : World} {lo lo' hi : Nat} {a : Option Addr} {n c : Nat} {f : List (List Int)} (h : OwnG w lo hi a n c f) (hl : lo' ≤ lo) : OwnG w lo' hi a n c f := by
  obtain ⟨vs, h1, h2, h3, h4, h5⟩ := h
  exact ⟨vs, h1.mono hl, h2, fun k v xs hv hx => by obtain ⟨a, n, c, e, h, r⟩ := h3 k v xs hv hx; exact ⟨a, n, c, e, h.mono hl, r⟩, h4, h5⟩
theorem OwnG.high {w : World} {lo hi hi' : Nat} {a : Option Addr} {n c : Nat} {f : List (List Int)} (h : OwnG w lo hi a n c f) (hl : hi ≤ hi') : OwnG w lo hi' a n c f := by
  obtain ⟨vs, h1, h2, h3, h4, h5⟩ := h
  exact ⟨vs, h1, h2, fun k v xs hv hx => by obtain ⟨a, n, c, e, h, r⟩ := h3 k v xs hv hx; exact ⟨a, n, c, e, h, fun g hg => ⟨Nat.lt_of_lt_of_le (r g hg).1 hl, (r g hg).2⟩⟩, h4, fun g hg => Nat.lt_of_lt_of_le (h5 g hg) hl⟩
theorem OwnG.fam {w : World} {lo hi : Nat} {a : Option Addr} {n c : Nat} {f : List (List Int)} (h : OwnG w lo hi a n c f) : Fam w a n f := by
  obtain ⟨vs, h1, h2, h3, _⟩ := h
  exact ⟨vs, h1.at_, h2, fun k v xs hv hx => by obtain ⟨a, n, c, e, h, _⟩ := h3 k v xs hv hx; exact e ▸ h.ints.row⟩
theorem OwnI.addr {w : World} {B : Nat} {a : Option Addr} {n c : Nat} {xs : List Int} (h : OwnI w B a n c xs) {p : Addr} (hp : a = some p) : (Value.slice a n c).ownBlock = some p.block := by rw [hp]; rfl
theorem OwnG.ownF {w : World} {lo hi : Nat} {a : Option Addr} {n c : Nat} {f : List (List Int)} (h : OwnG w lo hi a n c f) : OwnF w lo lo a n c f := by
  obtain ⟨vs, h1, h2, h3, _⟩ := h
  refine ⟨vs, h1, h2, fun k v xs hv hx => ?_⟩
  obtain ⟨a, n, c, e, h, r⟩ := h3 k v xs hv hx
  refine ⟨a, n, c, e, h.ints, fun p hp _ => ?_⟩
  have hb := h.addr hp
  exact ⟨(r _ (by rw [e]; exact hb)).2, (World.ownsRow.lt h _ hb).1⟩
theorem OwnG.nil (w : World) (lo hi : Nat) : OwnG w lo hi none 0 0 [] :=
  ⟨[], Own.nil w lo _, rfl, fun k v xs h => by simp at h, fun j k u v g g' _ h => by simp at h, fun g h => by simp [Value.ownBlock] at h⟩
/-- What a function leaves that returns such a family. -/
def RG (w : World) (f : List (List Int)) (e : Ending) (w' : World) : Prop :=
  ∃ a n c, e = .returned (.slice a n c) ∧ OwnG w' w.heap.size w'.heap.size a n c f ∧ Ext none w w'
def RGB (w : World) (f : List (List Int)) (b : Bool) (e : Ending) (w' : World) : Prop :=
  ∃ a n c, e = .returned (.tuple #[.slice a n c, .bool b]) ∧ OwnG w' w.heap.size w'.heap.size a n c f ∧ Ext none w w'
theorem RG.rf {w : World} {f : List (List Int)} {e : Ending} {w' : World} (h : RG w f e w') : RF w f e w' := by
  obtain ⟨a, n, c, e, h, x⟩ := h; exact ⟨a, n, c, e, h.ownF, x⟩
theorem RGB.rfb {w : World} {f : List (List Int)} {b : Bool} {e : Ending} {w' : World} (h : RGB w f b e w') : RFB w f b e w' := by
  obtain ⟨a, n, c, e, h, x⟩ := h; exact ⟨a, n, c, e, h.ownF, x⟩

/-- 'out = append(out, s)', s in a block of its own that came later than all the others. -/
theorem app_rowG (w : World) {ops : Array Oper} {rest : List Oper} {o : Oper} {a : Act} {Q : Exit → Act → World → Prop} (hgd : o.guard = none) (s x : Operand)
    (ho : o.op = .call { callee := .builtin .append, args := #[s, x], argTypes := #[23, 23] })
    (lo hi : Nat) (ad : Option Addr) (n c : Nat) (f : List (List Int)) (hown : OwnG w lo hi ad n c f) (sa : Option Addr) (sn sc : Nat) (xs : List Int) (hv : OwnI w hi sa sn sc xs) (hlh : lo ≤ hi) (hs : a.eval s = .slice ad n c)
    (hx : a.eval x = .slice (some ⟨w.heap.size, 0, none⟩) 1 1) (hlen : n + 1 ≤ 1000000) (hB : hi ≤ w.heap.size)
    (h : ∀ g c' w', OwnG w' lo w'.heap.size (some ⟨g, 0, none⟩) (n + 1) c' (f ++ [xs]) → w.grownBy w' (Value.slice ad n c).ownBlock → wpList Try.prog ops Q rest (a.put o.dst (.slice (some ⟨g, 0, none⟩) (n + 1) c')) w') :
    wpList Try.prog ops Q (o :: rest) a (w.alloc (.cells #[.slice sa sn sc] 26)) := by
  obtain ⟨i0, hi0, hz0, hz1, hz2⟩ := info_parts rowInfo
  obtain ⟨vs, h1, h2, h3, h4, h5⟩ := hown
  refine append1_at w hgd s x 23 ho lo 26 i0 (.slice none 0 0) 24 Try.underlying23 hi0 hz0 hz1 hz2 rfl ad n c vs hs h1 (.slice sa sn sc) hx rfl hlen (by decide) (Nat.le_trans hlh hB) ?_
  intro g c' w' k1 k2 k3
  have hgsz : g < w'.heap.size := (World.ownsRow.lt k1 g rfl).2
  have hvb : ∀ q, (Value.slice sa sn sc).ownBlock = some q → hi ≤ q ∧ q < w.heap.size := fun q hq => World.ownsRow.lt hv q hq
  have hself : ∀ q, (Value.slice sa sn sc).ownBlock = some q → w'.heap[q]? = w.heap[q]? := fun q hq =>
    k2.block q (hvb q hq).2 (fun e => by have := h5 q e.symm; have := (hvb q hq).1; omega)
  refine h g c' w' ⟨_, k1, by simp [h2], fun k v ys hv' hy => ?_, fun j k u v q q' hjk hu hv' hq hq' => ?_, fun q hq => by cases hq; exact hgsz⟩ k2
  · by_cases hk : k < vs.length
    · rw [List.getElem?_append_left hk] at hv'
      rw [List.getElem?_append_left (by rw [← h2]; exact hk)] at hy
      have hr := h3 k v ys hv' hy
      have hlt := hr.lt
      obtain ⟨a2, n2, c2, e2, o2, r2⟩ := hr
      refine ⟨a2, n2, c2, e2, Own.same o2 (fun q hq => ?_), fun q hq => ⟨Nat.lt_of_lt_of_le (hlt q hq).2 k2.size, fun e => ?_⟩⟩
      · subst e2
        exact k2.block q (hlt q hq).2 (fun e => (r2 q hq).2 e.symm)
      · obtain rfl : g = q := by simpa [Value.ownBlock] using e
        rcases k3 with e | e
        · exact (r2 _ hq).2 e.symm
        · have := (hlt _ hq).2; omega
    · have hk2 : k = vs.length := by
        have := (List.getElem?_eq_some_iff.1 hv').1
        simp at this; omega
      subst hk2
      rw [List.getElem?_append_right (Nat.le_refl _)] at hv'
      rw [List.getElem?_append_right (by rw [← h2]; exact Nat.le_refl _), ← h2] at hy
      simp at hv' hy
      subst hv' hy
      refine ⟨sa, sn, sc, rfl, (Own.same hv hself).mono hlh, fun q hq => ⟨Nat.lt_of_lt_of_le (hvb q hq).2 k2.size, fun e => ?_⟩⟩
      obtain rfl : g = q := by simpa [Value.ownBlock] using e
      rcases k3 with e | e
      · have := h5 _ e.symm; have := (hvb _ hq).1; omega
      · have := (hvb _ hq).2; omega
  · by_cases hk : k < vs.length
    · rw [List.getElem?_append_left (by omega)] at hu
      rw [List.getElem?_append_left hk] at hv'
      exact h4 j k u v q q' hjk hu hv' hq hq'
    · have hk2 : k = vs.length := by
        have := (List.getElem?_eq_some_iff.1 hv').1
        simp at this; omega
      subst hk2
      rw [List.getElem?_append_right (Nat.le_refl _)] at hv'
      simp at hv'
      subst hv'
      rw [List.getElem?_append_left hjk] at hu
      have hj : j < f.length := by rw [← h2]; exact hjk
      have := h3 j u _ hu (List.getElem?_eq_getElem hj)
      obtain ⟨a2, n2, c2, e2, o2, r2⟩ := this
      have := (r2 q hq).1
      have := (hvb q' hq').1
      omega

/-- a row is put at a place where nil stood, or one of the rows is written -/
theorem OwnG.cell {w : World} {lo hi : Nat} {a : Option Addr} {n c : Nat} {f : List (List Int)} (h : OwnG w lo hi a n c f) {k : Nat} (hk : k < n) :
    ∃ g a2 n2 c2, a = some ⟨g, 0, none⟩ ∧ w.cell? ⟨g, k, none⟩ = some (.slice a2 n2 c2) ∧ OwnI w lo a2 n2 c2 (f.getD k []) := by
  have hl := h.len
  obtain ⟨vs, h1, h2, h3, _⟩ := h
  have hkv : k < vs.length := by rw [h2, hl]; exact hk
  have hf : f[k]? = some (f.getD k []) := by rw [List.getElem?_eq_getElem (by omega)]; simp [List.getD, List.getElem?_eq_getElem (show k < f.length by omega)]
  obtain ⟨a2, n2, c2, e2, o2, _⟩ := h3 k _ _ (List.getElem?_eq_getElem hkv) hf
  rcases h1.2 with ⟨hv, h0⟩ | ⟨g, cap, cur, hv, _⟩
  · omega
  · injection hv with ha hn hc
    subst ha
    refine ⟨g, a2, n2, c2, rfl, ?_, o2⟩
    have hv2 : w.cell? ⟨g, k, none⟩ = vs[k]? := by
      refine World.ownsRow.cellAt (n := n) (cap := c) (size := 1) (base := lo) (e := 26) (xs := vs) ?_ k (by omega)
      exact h1
    rw [hv2, List.getElem?_eq_getElem hkv, e2]
/-- one row is written over -/
theorem OwnG.mark {w w' : World} {lo hi : Nat} {a : Option Addr} {n c : Nat} {f : List (List Int)} (h : OwnG w lo hi a n c f) {k g : Nat} (hk : k < n) {a2 : Option Addr} {n2 c2 : Nat} (ha : a = some ⟨g, 0, none⟩) (hc : w.cell? ⟨g, k, none⟩ = some (.slice a2 n2 c2))
    {ys : List Int} (ho : OwnI w' lo a2 n2 c2 ys) (hg : w.grownBy w' (Value.slice a2 n2 c2).ownBlock) : OwnG w' lo hi a n c (f.set k ys) ∧ Chg lo hi w w' := by
  have hl := h.len
  obtain ⟨vs, h1, h2, h3, h4, h5⟩ := h
  have hkv : k < vs.length := by rw [h2, hl]; exact hk
  have hvk : vs[k]? = some (.slice a2 n2 c2) := by
    subst ha
    have hv2 : w.cell? ⟨g, k, none⟩ = vs[k]? := World.ownsRow.cellAt (n := n) (cap := c) (size := 1) (base := lo) (e := 26) (xs := vs) h1 k (by omega)
    rw [← hv2]; exact hc
  have hfk : f[k]? = some (f.getD k []) := by rw [List.getElem?_eq_getElem (by omega)]; simp [List.getD, List.getElem?_eq_getElem (show k < f.length by omega)]
  have hrk := h3 k _ _ hvk hfk
  have hltk := hrk.lt
  obtain ⟨_, _, _, ek, _, rk⟩ := hrk
  refine ⟨⟨vs, Own.same h1 (fun q hq => ?_), by simp [h2], fun j v xs hv hx => ?_, h4, h5⟩, Chg.of_grown hg (fun q hq => ⟨(hltk q hq).1, (rk q hq).1⟩)⟩
  · exact hg.block q (World.ownsRow.lt h1 q hq).2 (fun e => (rk q e.symm).2 hq)
  · by_cases hjk : j = k
    · subst hjk
      rw [hvk] at hv
      injection hv with hv
      subst hv
      have : xs = ys := by
        rw [List.getElem?_set] at hx
        simp [show j < f.length by omega] at hx
        exact hx.symm
      subst this
      exact ⟨a2, n2, c2, rfl, ho, rk⟩
    · rw [List.getElem?_set, if_neg (Ne.symm hjk)] at hx
      have hr := h3 j v xs hv hx
      refine hr.same (fun q hq => hg.block q (hr.lt q hq).2 (fun e => ?_))
      rcases Nat.lt_or_ge j k with hlt | hge
      · have := h4 j k _ _ q q hlt hv hvk hq e.symm; omega
      · have := h4 k j _ _ q q (by omega) hvk hv e.symm hq; omega
/-- a new row is put where a nil row stood -/
theorem OwnG.put {w : World} {lo hi hi' : Nat} {g n c : Nat} {f : List (List Int)} (h : OwnG w lo hi (some ⟨g, 0, none⟩) n c f) {k : Nat} (hk : k < n) {a2 : Option Addr} {n2 c2 : Nat} {ys : List Int} (ho : OwnI w hi a2 n2 c2 ys) (hlh : lo ≤ hi) (hhi : hi ≤ hi') (hsz : w.heap.size ≤ hi')
    (hlate : ∀ j, k < j → j < n → w.cell? ⟨g, j, none⟩ = some (.slice none 0 0)) : OwnG (w.setCell ⟨g, k, none⟩ (.slice a2 n2 c2)) lo hi' (some ⟨g, 0, none⟩) n c (f.set k ys) ∧ w.grownBy (w.setCell ⟨g, k, none⟩ (.slice a2 n2 c2)) (some g) := by
  have hl := h.len
  obtain ⟨vs, h1, h2, h3, h4, h5⟩ := h
  have hkv : k < vs.length := by rw [h2, hl]; exact hk
  have hcell : ∀ j, j < n → w.cell? ⟨g, j, none⟩ = vs[j]? := fun j hj => World.ownsRow.cellAt (n := n) (cap := c) (size := 1) (base := lo) (e := 26) (xs := vs) h1 j (by omega)
  have hst := World.ownsRow.stored (show w.ownsRow lo 26 1 (.slice (some ⟨g, 0, none⟩) n c) n vs from h1) k (.slice a2 n2 c2)
  have hgn := h5 g rfl
  have hb2 : ∀ q, (Value.slice a2 n2 c2).ownBlock = some q → hi ≤ q ∧ q < w.heap.size := fun q hq => World.ownsRow.lt ho q hq
  have hsame : ∀ q, q ≠ g → (w.setCell ⟨g, k, none⟩ (.slice a2 n2 c2)).heap[q]? = w.heap[q]? := fun q hq => heap_setCell_other w ⟨g, k, none⟩ q _ (fun e => hq (by simpa using e))
  refine ⟨⟨vs.set k (.slice a2 n2 c2), hst.1, by simp [h2], fun j v xs hv hx => ?_, fun i j u v q q' hij hu hv hq hq' => ?_, fun q hq => (show g = q from by simpa [Value.ownBlock] using hq) ▸ (by omega)⟩, hst.2⟩
  · by_cases hjk : j = k
    · subst hjk
      rw [List.getElem?_set] at hv hx
      simp [hkv] at hv
      simp [show j < f.length by omega] at hx
      subst hv hx
      refine ⟨a2, n2, c2, rfl, (Own.same ho (fun q hq => hsame q (by have := (hb2 q hq).1; omega))).mono hlh, fun q hq => ⟨?_, fun e => ?_⟩⟩
      · have := (hb2 q hq).2; omega
      · have e : g = q := by simpa [Value.ownBlock] using e
        have := (hb2 q hq).1; omega
    · rw [List.getElem?_set, if_neg (Ne.symm hjk)] at hv hx
      have hr := h3 j v xs hv hx
      obtain ⟨a3, n3, c3, e3, o3, r3⟩ := hr
      refine ⟨a3, n3, c3, e3, Own.same o3 (fun q hq => hsame q (fun e => ?_)), fun q hq => ⟨by have := (r3 q hq).1; omega, (r3 q hq).2⟩⟩
      subst e3 e
      exact (r3 _ hq).2 rfl
  · have hul := (List.getElem?_eq_some_iff.1 hu).1
    have hvl := (List.getElem?_eq_some_iff.1 hv).1
    simp at hul hvl
    by_cases hik : i = k
    · subst hik
      rw [List.getElem?_set, if_neg (by omega)] at hv
      have hj2 : j < n := by rw [← hl, ← h2]; exact hvl
      rw [← hcell j hj2, hlate j hij hj2] at hv
      injection hv with hv
      rw [← hv] at hq'
      simp [Value.ownBlock] at hq'
    · rw [List.getElem?_set, if_neg (Ne.symm hik)] at hu
      by_cases hjk : j = k
      · subst hjk
        rw [List.getElem?_set] at hv
        simp [hkv] at hv
        subst hv
        have hi2 : i < f.length := by rw [← h2]; exact hul
        obtain ⟨a3, n3, c3, e3, o3, r3⟩ := h3 i u _ hu (List.getElem?_eq_getElem hi2)
        have := (r3 q hq).1
        have := (hb2 q' hq').1
        omega
      · rw [List.getElem?_set, if_neg (Ne.symm hjk)] at hv
        exact h4 i j u v q q' hij hu hv hq hq'
end Go.Proofs.Ytnifgfnhcjhodaa
