/- Words for memory: append of whole slices onto rows of the call's own, in and out of a region that draws its order. No program text. Conditions: each lemma's own. -/
import Derived.Test.YtnlmcbilhfmenaaW2
import Derived.Deep.RegionLaw
namespace Go.Proofs.Ytnlmcbilhfmenaa
open Go.RowKit
set_option linter.unusedVariables false

theorem At.news {w : World} {ad : Addr} {n : Nat} {vs : List Value} (h : At w (some ad) n vs) : ∀ j u, vs[j]? = some u → w.cell? (ad.add j) = some u := by
  intro j u hj
  have hj' : j < n := by rw [← h.1]; exact (List.getElem?_eq_some_iff.1 hj).1
  obtain ⟨b, off, ha, hc⟩ := h.2.2 j hj'
  injection ha with ha
  subst ha
  have e : (⟨b, off, none⟩ : Addr).add j = ⟨b, off + j, none⟩ := by unfold Addr.add; split <;> simp_all
  rw [e, hc, hj]
/-- a part of a slice, from place i on -/
theorem At.part {w : World} {b off n m i : Nat} {vs : List Value} {a : Option Addr} (h : At w (some ⟨b, off, none⟩) n vs) (him : i + m ≤ n) (ha : a = some ⟨b, off + i, none⟩ ∨ m = 0) : At w a m ((vs.drop i).take m) := by
  refine ⟨by rw [List.length_take, List.length_drop, h.1]; omega, Nat.le_trans (by omega) h.2.1, fun k hk => ?_⟩
  obtain ⟨b', off', ha', hc⟩ := h.2.2 (i + k) (by omega)
  simp only [Option.some.injEq, Addr.mk.injEq, and_true] at ha'
  obtain ⟨rfl, rfl⟩ := ha'
  rcases ha with rfl | h0
  · exact ⟨_, _, rfl, by rw [Nat.add_assoc, hc, List.getElem?_take, if_pos hk, List.getElem?_drop]⟩
  · omega

/-- append of a whole slice, as a step of a region that draws its order -/
theorem step_app {P : Program} {ops : Array Oper} {o : Oper} {a : Act} {w : World} {K : Act → World → Prop} {Q : Exit → Act → World → Prop} {E : Prop}
    (hg : o.guard = none) (s x : Operand) (t : TypeId) (ho : o.op = Op.call { callee := Callee.builtin Builtin.append, args := #[s, x], argTypes := #[t, t] })
    (B e : Nat) (i : TypeInfo) (z : Value) (bytes : Nat) (ht : P.underlying t = some (.slice e)) (hi : P.info? e = some i) (hz : i.zero = some z) (hsize : i.size = 1) (hby : i.bytes = bytes) (hzs : z.cells.size = 1)
    (ad : Option Addr) (n c : Nat) (vs : List Value) (hs : a.eval s = .slice ad n c) (hown : Own w B e ad n c vs)
    (sa : Addr) (m cs : Nat) (us : List Value) (hx : a.eval x = .slice (some sa) m cs) (hsrc : At w (some sa) m us) (h1 : ∀ u ∈ us, u.oneCell' = true) (hlen : n + m ≤ 1000000) (hb : bytes ≤ 1000) (hB : B ≤ w.heap.size)
    (hK : ∀ a' c' w', Own w' B e a' (n + m) c' (vs ++ us) → w.grownBy w' (Value.slice ad n c).ownBlock → ((Value.slice a' (n + m) c').ownBlock = (Value.slice ad n c).ownBlock ∨ (Value.slice a' (n + m) c').ownBlock = some w.heap.size) → ((a' = none → n + m = 0 ∧ c' = 0)) → K (a.put o.dst (.slice a' (n + m) c')) w') :
    if Region.wanted o (yielded ops a.tmps) = true then Oper.wp P o a w K Q else E := by
  have hw : Region.wanted o (yielded ops a.tmps) = true := by simp [Region.wanted, hg]
  rw [if_pos hw]
  have hmul : (n + m) * bytes ≤ 1000000 * 1000 := Nat.mul_le_mul hlen hb
  obtain ⟨v', w', hr, h2, h3, h4, h5⟩ := run_append_own_at (P := P) w B t o.type e i z 1 bytes ht hi hz hsize hby hzs (by decide) _ n vs hown sa m cs us (by rw [hsrc.1]; omega) hsrc.news h1 (by simp only [maxLen]; omega) (by omega) hB
  obtain ⟨a', c', rfl, hnil⟩ : ∃ a' c', v' = .slice a' (n + m) c' ∧ (a' = none → n + m = 0 ∧ c' = 0) := by
    rcases h2.2 with ⟨rfl, h0⟩ | ⟨g, cap, _, rfl, _⟩
    · exact ⟨none, 0, by rw [h0], fun _ => ⟨h0, rfl⟩⟩
    · exact ⟨some ⟨g, 0, none⟩, cap, rfl, fun h => by cases h⟩
  unfold Oper.wp execOp
  simp only [ho, resolve, invoke, builtin, Sem.run_bind, Sem.run_pure, Result.andThen_ok, List.map_toArray, List.map_cons, List.map_nil, hs, hx, hr]
  exact hK a' c' w' h2 h3 h5 hnil
/-- .. and outside one -/
theorem wpl_app {P : Program} {ops : Array Oper} {rest : List Oper} {o : Oper} {a : Act} {w : World} {Q : Exit → Act → World → Prop}
    (hg : o.guard = none) (s x : Operand) (t : TypeId) (ho : o.op = Op.call { callee := Callee.builtin Builtin.append, args := #[s, x], argTypes := #[t, t] })
    (B e : Nat) (i : TypeInfo) (z : Value) (bytes : Nat) (ht : P.underlying t = some (.slice e)) (hi : P.info? e = some i) (hz : i.zero = some z) (hsize : i.size = 1) (hby : i.bytes = bytes) (hzs : z.cells.size = 1)
    (ad : Option Addr) (n c : Nat) (vs : List Value) (hs : a.eval s = .slice ad n c) (hown : Own w B e ad n c vs)
    (sa : Addr) (m cs : Nat) (us : List Value) (hx : a.eval x = .slice (some sa) m cs) (hsrc : At w (some sa) m us) (h1 : ∀ u ∈ us, u.oneCell' = true) (hlen : n + m ≤ 1000000) (hb : bytes ≤ 1000) (hB : B ≤ w.heap.size)
    (hK : ∀ a' c' w', Own w' B e a' (n + m) c' (vs ++ us) → w.grownBy w' (Value.slice ad n c).ownBlock → ((Value.slice a' (n + m) c').ownBlock = (Value.slice ad n c).ownBlock ∨ (Value.slice a' (n + m) c').ownBlock = some w.heap.size) → ((a' = none → n + m = 0 ∧ c' = 0)) → wpList P ops Q rest (a.put o.dst (.slice a' (n + m) c')) w') :
    wpList P ops Q (o :: rest) a w := by
  refine wpList_plain hg fun K hK2 => ?_
  have := step_app (P := P) (ops := ops) (o := o) (a := a) (w := w) (K := K) (Q := Q) (E := False) hg s x t ho B e i z bytes ht hi hz hsize hby hzs ad n c vs hs hown sa m cs us hx hsrc h1 hlen hb hB (fun a' c' w' k1 k2 k3 k4 => hK2 _ _ (hK a' c' w' k1 k2 k3 k4))
  rwa [if_pos (by simp [Region.wanted, hg])] at this

/-- append of a slice of int, as a step -/
theorem step_ints {ops : Array Oper} {o : Oper} {a : Act} {w : World} {K : Act → World → Prop} {Q : Exit → Act → World → Prop} {E : Prop}
    (hg : o.guard = none) (s x : Operand) (ho : o.op = Op.call { callee := Callee.builtin Builtin.append, args := #[s, x], argTypes := #[24, 24] })
    (B : Nat) (ad : Option Addr) (n c : Nat) (xs : List Int) (hs : a.eval s = .slice ad n c) (hown : OwnI w B ad n c xs)
    (sa : Addr) (m cs : Nat) (ys : List Int) (hx : a.eval x = .slice (some sa) m cs) (hsrc : Ints w (some sa) m ys) (hlen : n + m ≤ 1000000) (hB : B ≤ w.heap.size)
    (hK : ∀ a' c' w', OwnI w' B a' (n + m) c' (xs ++ ys) → w.grownBy w' (Value.slice ad n c).ownBlock → K (a.put o.dst (.slice a' (n + m) c')) w') :
    if Region.wanted o (yielded ops a.tmps) = true then Oper.wp Try.prog o a w K Q else E := by
  obtain ⟨i0, hi, hz0, hz1, hz2⟩ := info_parts intInfo
  refine step_app hg s x 24 ho B 3 i0 (.int .i64 0) 8 Try.underlying24 hi hz0 hz1 hz2 rfl ad n c _ hs hown sa m cs _ hx hsrc ?_ hlen (by decide) hB fun a' c' w' k1 k2 _ _ => hK a' c' w' (by unfold OwnI; rw [List.map_append]; exact k1) k2
  intro u hu
  obtain ⟨y, _, rfl⟩ := List.mem_map.1 hu
  rfl
/-- Fam, with what a slice in Go bears: nil has no length and no room -/
def Nil0 (a : Option Addr) (n c : Nat) : Prop := a = none → n = 0 ∧ c = 0
theorem OwnF.nil0 {w : World} {B R : Nat} {a : Option Addr} {n c : Nat} {f : List (List Int)} (h : OwnF w B R a n c f) : Nil0 a n c := by
  obtain ⟨vs, h1, _⟩ := h
  intro ha
  rcases h1.2 with ⟨hv, h0⟩ | ⟨g, cap, _, hv, _⟩
  · injection hv with _ _ hc; exact ⟨h0, hc⟩
  · injection hv with h _ _; rw [ha] at h; cases h
theorem OwnI.nil0 {w : World} {B : Nat} {a : Option Addr} {n c : Nat} {f : List Int} (h : OwnI w B a n c f) : Nil0 a n c := by
  intro ha
  rcases h.2 with ⟨hv, h0⟩ | ⟨g, cap, _, hv, _⟩
  · injection hv with _ _ hc; exact ⟨h0, hc⟩
  · injection hv with h _ _; rw [ha] at h; cases h
theorem OwnI.cap {w : World} {B : Nat} {a : Option Addr} {n c : Nat} {f : List Int} (h : OwnI w B a n c f) : n ≤ c ∧ c ≤ 9223372036854775807 := by
  rcases h.2 with ⟨hv, h0⟩ | ⟨g, cap, _, hv, _, _, h1, h2, _⟩
  · injection hv with _ _ hc; subst hc; omega
  · injection hv with _ _ hc; subst hc; simp only [maxLen] at h2; omega
theorem OwnF.cap {w : World} {B R : Nat} {a : Option Addr} {n c : Nat} {f : List (List Int)} (h : OwnF w B R a n c f) : n ≤ c ∧ c ≤ 9223372036854775807 := by
  obtain ⟨vs, h, _⟩ := h
  rcases h.2 with ⟨hv, h0⟩ | ⟨g, cap, _, hv, _, _, h1, h2, _⟩
  · injection hv with _ _ hc; subst hc; omega
  · injection hv with _ _ hc; subst hc; simp only [maxLen] at h2; omega
theorem rows_one {w : World} {r : Option Nat} {R : Nat} {vs : List Value} {f : List (List Int)} (h : Rows w r R vs f) : ∀ u ∈ vs, u.oneCell' = true := by
  intro u hu
  obtain ⟨k, hk, rfl⟩ := List.getElem_of_mem hu
  have hf : k < f.length := by rw [← h.1]; exact hk
  obtain ⟨a, n, c, e, _⟩ := h.2 k _ _ (List.getElem?_eq_getElem hk) (List.getElem?_eq_getElem hf)
  rw [e]; rfl
/-- append of a family, as a step; its rows lie in blocks that the growing row does not touch -/
theorem step_fam {ops : Array Oper} {o : Oper} {a : Act} {w : World} {K : Act → World → Prop} {Q : Exit → Act → World → Prop} {E : Prop}
    (hg : o.guard = none) (s x : Operand) (ho : o.op = Op.call { callee := Callee.builtin Builtin.append, args := #[s, x], argTypes := #[22, 22] })
    (B R : Nat) (ad : Option Addr) (n c : Nat) (f : List (List Int)) (hs : a.eval s = .slice ad n c) (hown : OwnF w B R ad n c f)
    (sa : Addr) (m cs : Nat) (us : List Value) (g : List (List Int)) (hx : a.eval x = .slice (some sa) m cs) (hsrc : At w (some sa) m us) (hrow : Rows w (Value.slice ad n c).ownBlock R us g) (hlen : n + m ≤ 1000000) (hB : B ≤ w.heap.size)
    (hK : ∀ a' c' w', OwnF w' B R a' (n + m) c' (f ++ g) → w.grownBy w' (Value.slice ad n c).ownBlock → K (a.put o.dst (.slice a' (n + m) c')) w') :
    if Region.wanted o (yielded ops a.tmps) = true then Oper.wp Try.prog o a w K Q else E := by
  obtain ⟨i0, hi, hz0, hz1, hz2⟩ := info_parts rowInfo
  obtain ⟨vs, h1, h2⟩ := hown
  refine step_app hg s x 22 ho B 24 i0 (.slice none 0 0) 24 Try.underlying22 hi hz0 hz1 hz2 rfl ad n c vs hs h1 sa m cs us hx hsrc (rows_one hrow) hlen (by decide) hB fun a' c' w' k1 k2 k3 _ => hK a' c' w' ⟨_, k1, ?_⟩ k2
  refine (h2.app hrow).imp fun v ys hr => hr.grown k2 (.inl rfl) ?_
  rcases k3 with e | e
  · exact .inl e
  · exact .inr ⟨_, e, Nat.le_refl _⟩
/-- append of a slice of int, outside a region -/
theorem wpl_ints {ops : Array Oper} {rest : List Oper} {o : Oper} {a : Act} {w : World} {Q : Exit → Act → World → Prop}
    (hg : o.guard = none) (s x : Operand) (ho : o.op = Op.call { callee := Callee.builtin Builtin.append, args := #[s, x], argTypes := #[24, 24] })
    (B : Nat) (ad : Option Addr) (n c : Nat) (xs : List Int) (hs : a.eval s = .slice ad n c) (hown : OwnI w B ad n c xs)
    (sa : Addr) (m cs : Nat) (ys : List Int) (hx : a.eval x = .slice (some sa) m cs) (hsrc : Ints w (some sa) m ys) (hlen : n + m ≤ 1000000) (hB : B ≤ w.heap.size)
    (hK : ∀ a' c' w', OwnI w' B a' (n + m) c' (xs ++ ys) → w.grownBy w' (Value.slice ad n c).ownBlock → wpList Try.prog ops Q rest (a.put o.dst (.slice a' (n + m) c')) w') :
    wpList Try.prog ops Q (o :: rest) a w := by
  refine wpList_plain hg fun K hK2 => ?_
  have := step_ints (ops := ops) (o := o) (a := a) (w := w) (K := K) (Q := Q) (E := False) hg s x ho B ad n c xs hs hown sa m cs ys hx hsrc hlen hB (fun a' c' w' k1 k2 => hK2 _ _ (hK a' c' w' k1 k2))
  rwa [if_pos (by simp [Region.wanted, hg])] at this
/-- append of a family, outside a region -/
theorem wpl_fam {ops : Array Oper} {rest : List Oper} {o : Oper} {a : Act} {w : World} {Q : Exit → Act → World → Prop}
    (hg : o.guard = none) (s x : Operand) (ho : o.op = Op.call { callee := Callee.builtin Builtin.append, args := #[s, x], argTypes := #[22, 22] })
    (B R : Nat) (ad : Option Addr) (n c : Nat) (f : List (List Int)) (hs : a.eval s = .slice ad n c) (hown : OwnF w B R ad n c f)
    (sa : Addr) (m cs : Nat) (us : List Value) (g : List (List Int)) (hx : a.eval x = .slice (some sa) m cs) (hsrc : At w (some sa) m us) (hrow : Rows w (Value.slice ad n c).ownBlock R us g) (hlen : n + m ≤ 1000000) (hB : B ≤ w.heap.size)
    (hK : ∀ a' c' w', OwnF w' B R a' (n + m) c' (f ++ g) → w.grownBy w' (Value.slice ad n c).ownBlock → wpList Try.prog ops Q rest (a.put o.dst (.slice a' (n + m) c')) w') :
    wpList Try.prog ops Q (o :: rest) a w := by
  refine wpList_plain hg fun K hK2 => ?_
  have := step_fam (ops := ops) (o := o) (a := a) (w := w) (K := K) (Q := Q) (E := False) hg s x ho B R ad n c f hs hown sa m cs us g hx hsrc hrow hlen hB (fun a' c' w' k1 k2 => hK2 _ _ (hK a' c' w' k1 k2))
  rwa [if_pos (by simp [Region.wanted, hg])] at this
/-- append of one set, as a step of a region -/
theorem step_row {ops : Array Oper} {o : Oper} {a : Act} (w : World) {K : Act → World → Prop} {Q : Exit → Act → World → Prop} {E : Prop}
    (hg : o.guard = none) (s x : Operand) (ho : o.op = Op.call { callee := Callee.builtin Builtin.append, args := #[s, x], argTypes := #[22, 22] })
    (B R : Nat) (ad : Option Addr) (n c : Nat) (f : List (List Int)) (hs : a.eval s = .slice ad n c) (hown : OwnF w B R ad n c f)
    (v : Value) (xs : List Int) (hx : a.eval x = .slice (some ⟨w.heap.size, 0, none⟩) 1 1) (hv : RowI w (Value.slice ad n c).ownBlock R v xs) (hlen : n + 1 ≤ 1000000) (hB : B ≤ w.heap.size)
    (hK : ∀ a' c' w', OwnF w' B R a' (n + 1) c' (f ++ [xs]) → w.grownBy w' (Value.slice ad n c).ownBlock → K (a.put o.dst (.slice a' (n + 1) c')) w') :
    if Region.wanted o (yielded ops a.tmps) = true then Oper.wp Try.prog o a (w.alloc (.cells #[v] 24)) K Q else E := by
  have hx0 : Ext none w (w.alloc (.cells #[v] 24)) := (Ext.refl _ _).alloc _
  refine step_fam hg s x ho B R ad n c f hs (hown.ext0 hx0) ⟨w.heap.size, 0, none⟩ 1 1 [v] [xs] hx ?_ ?_ hlen (Nat.le_trans hB hx0.size) fun a' c' w' k1 k2 => hK a' c' w' k1 (World.grownBy.trans (World.grownBy_alloc w _ _) k2)
  · refine ⟨rfl, by simp [maxLen], fun k hk => ⟨_, _, rfl, ?_⟩⟩
    obtain rfl : k = 0 := by omega
    exact cell_one_new w v _ 0 v rfl
  · exact ((Rows.nil _ _ _).snoc (hv.ext hx0) : Rows _ _ R ([] ++ [v]) ([] ++ [xs]))
theorem fam_some {w : World} {a : Option Addr} {n : Nat} {f : List (List Int)} (h : Fam w a n f) : ∃ us, At w a n us ∧ Rows w none 0 us f := h
theorem rows_sep {w : World} {r : Option Nat} {us : List Value} {f : List (List Int)} (h : Rows w none 0 us f) (hr : ∀ k, r = some k → w.heap.size ≤ k) : Rows w r 0 us f :=
  h.imp fun v xs ⟨a, n, c, e, hi, hp⟩ => ⟨a, n, c, e, hi, fun p hp' hn => ⟨fun e' => by have := hi.block_lt hp' hn; have := hr _ e'; omega, by omega⟩⟩
theorem rows_ext {w w' : World} {r : Option Nat} {R : Nat} {us : List Value} {f : List (List Int)} (h : Rows w r R us f) (hx : Ext none w w') : Rows w' r R us f := h.imp fun _ _ k => k.ext hx
/-- append of a family that may be nil, outside a region -/
theorem wpl_fam0 {ops : Array Oper} {rest : List Oper} {o : Oper} {a : Act} {w : World} {Q : Exit → Act → World → Prop}
    (hg : o.guard = none) (s x : Operand) (ho : o.op = Op.call { callee := Callee.builtin Builtin.append, args := #[s, x], argTypes := #[22, 22] })
    (B R : Nat) (ad : Option Addr) (n c : Nat) (f : List (List Int)) (hs : a.eval s = .slice ad n c) (hown : OwnF w B R ad n c f)
    (sa : Option Addr) (m cs : Nat) (us : List Value) (g : List (List Int)) (hx : a.eval x = .slice sa m cs) (hz : Nil0 sa m cs) (hsrc : At w sa m us) (hrow : Rows w (Value.slice ad n c).ownBlock R us g) (hlen : n + m ≤ 1000000) (hB : B ≤ w.heap.size)
    (hK : ∀ a' c' w', OwnF w' B R a' (n + m) c' (f ++ g) → w.grownBy w' (Value.slice ad n c).ownBlock → wpList Try.prog ops Q rest (a.put o.dst (.slice a' (n + m) c')) w') :
    wpList Try.prog ops Q (o :: rest) a w := by
  cases sa with
  | some sa => exact wpl_fam hg s x ho B R ad n c f hs hown sa m cs us g hx hsrc hrow hlen hB hK
  | none =>
    obtain ⟨rfl, rfl⟩ := hz rfl
    have hus : us = [] := List.eq_nil_of_length_eq_zero hsrc.1
    subst hus
    have hgn : g = [] := List.eq_nil_of_length_eq_zero (by rw [← hrow.1]; rfl)
    subst hgn
    obtain ⟨i0, hi, hz0, hz1, hz2⟩ := info_parts rowInfo
    have hown' := hown
    obtain ⟨vs, h1, h2⟩ := hown'
    refine wpList_append_own_none hg s x 22 ho B 24 i0 1 Try.underlying22 hi _ n vs hs h1 hx ?_
    exact hK ad c w (by rw [List.append_nil]; exact hown) (World.grownBy.refl _ _)
end Go.Proofs.Ytnlmcbilhfmenaa
