/- XPU: several texts in one. Conditions: each lemma's own. -/
import Derived.Test.YtnifgfnhcjhodaaPT




import Derived.Conc.CompanyDraw
namespace Go.Proofs.Ytnifgfnhcjhodaa
set_option linter.unusedVariables false
set_option linter.unusedSimpArgs false
section
open Go.Conc Go.ConcN
open Go.ConcR (KK wgBlock WgAt stA smA rd wr Payload DC0 Bk g_of_ofEvents)

theorem upd_self {α : Type} (O : Nat → α) (i : Nat) : upd O i (O i) = O := by
  funext a
  by_cases e : a = i
  · subst e; rw [upd_same]
  · rw [upd_ne O _ e]

section
variable {L : Lay} {X : Nat → Prop} {old j : Nat} {O : Nat → List Nat} {o0 o' : List Nat}
theorem bk_low {B : Nat} {e : Event} (h : Bk L.Wg e) (hW : L.Wg < B) : ∀ x, (MemAct.ofEvent e).touch? = some x → x.loc.low B := by
  intro x hx
  refine low_touch ?_ hx
  obtain ⟨loc, wr, sy⟩ := e
  rcases h with h | h | ⟨a, wr', h, ha⟩
  · simp only at h; subst h; rw [ofEvent_mark]; trivial
  · simp only at h; subst h; rw [ofEvent_mark]; trivial
  · cases h
    show a.block < B
    omega
/-- What is listed lies below B. -/
theorem evO_low {B N' : Nat} {ci : Option Nat} {e : Event} (h : EvO L X ci o' N' e) (ho : ∀ b ∈ o', b < B) (hL : LayOk L) (hN : L.N ≤ B) : ∀ x, (MemAct.ofEvent e).touch? = some x → x.loc.low B := by
  intro x hx
  have hW := hL.hW
  have hC := hL.hC
  obtain ⟨a, ha, ⟨_, h1 | ⟨i', _, h2⟩ | ⟨_, h2, _⟩⟩ | ⟨_, h1⟩ | ⟨_, _, h1⟩⟩ := h.touch x hx
  · rw [ha]; exact ho _ h1
  · rw [ha, h2]; show L.C < B; omega
  · rw [ha]; show a.block < B; omega
  · rw [ha]; show a.block < B; omega
  · rw [ha]; show a.block < B; omega
theorem bk_touch {e : Event} (h : Bk L.Wg e) : ∀ x, (MemAct.ofEvent e).touch? = some x → x.loc.isMemory = true ∧ ShP L X x.loc ∧ x.kind = .atomic := by
  intro x hx
  obtain ⟨loc, wr, sy⟩ := e
  rcases h with h | h | ⟨a, wr', h, ha⟩
  · simp only at h; subst h; rw [ofEvent_mark] at hx; simp [MemAct.touch?] at hx
  · simp only at h; subst h; rw [ofEvent_mark] at hx; simp [MemAct.touch?] at hx
  · cases h
    have : x = ⟨.cell a, wr, .atomic⟩ := by
      have := hx
      cases wr <;> simp [MemAct.ofEvent, MemAct.touch?] at this <;> exact this.symm
    subst this
    exact ⟨rfl, ⟨a, rfl, .inr ha⟩, rfl⟩
theorem bk_okW {γ : Nat} {Own Rd : Nat → Loc → Prop} {fn : FuncId} {pos : String} {es : Array Event} (h : ∀ e ∈ es, Bk L.Wg e) : ∀ op ∈ MemOp.ofEvents γ fn pos es, OkW (ShP L X) Own Rd γ op := by
  intro op hop
  obtain ⟨e, he, rfl⟩ := of_mem hop
  refine ⟨rfl, fun x hx => .inl ?_⟩
  obtain ⟨_, h2, h3⟩ := bk_touch (X := X) (h e he) x hx
  exact ⟨h2, by rw [h3]; simp, by rw [h3]; simp⟩
theorem bk_ok0 {Own Rd : Nat → Loc → Prop} {jj : Nat} {fn : FuncId} {pos : String} {es : Array Event} (h : ∀ e ∈ es, Bk L.Wg e) : ∀ op ∈ MemOp.ofEvents 0 fn pos es, Ok0 (ShP L X) Own Rd jj op := by
  intro op hop
  obtain ⟨e, he, rfl⟩ := of_mem hop
  refine ⟨rfl, fun x hx => .inl ?_⟩
  obtain ⟨_, h2, h3⟩ := bk_touch (X := X) (h e he) x hx
  exact ⟨h2, by rw [h3]; simp⟩

theorem evO_okW {B i : Nat} (hi : i < j) {fn : FuncId} {pos : String} {es : Array Event} (h : ∀ e ∈ es, EvO L X (some i) o' B e) :
    ∀ op ∈ MemOp.ofEvents (old + 1 + i) fn pos es, OkW (ShP L X) (OwnGo L old j (upd O i o')) (RdG L X old) (old + 1 + i) op := by
  intro op hop
  obtain ⟨e, he, rfl⟩ := of_mem hop
  refine ⟨rfl, fun x hx => ?_⟩
  obtain ⟨a, ha, ⟨hk, h1 | ⟨i', h1, h2⟩ | ⟨h1, h2, h3, h4, h5⟩⟩ | ⟨hk, h1⟩ | ⟨_, h1, _⟩⟩ := (h e he).touch x hx
  · exact .inr (.inl ⟨i, hi, rfl, a, ha, .inl (by rw [upd_same]; exact h1)⟩)
  · cases h1
    exact .inr (.inl ⟨i, hi, rfl, a, ha, .inr h2⟩)
  · exact .inr (.inr ⟨⟨by omega, a, ha, h2, h3, h4, h5⟩, h1⟩)
  · exact .inl ⟨⟨a, ha, .inr h1⟩, by rw [hk]; simp, by rw [hk]; simp⟩
  · cases h1
theorem evO_ok0 {B : Nat} (hls : Lists L j O o' B) (hL : LayOk L) {fn : FuncId} {pos : String} {es : Array Event} (hX : ∀ b, X b → b < L.N ∧ b ≠ L.C) (h : ∀ e ∈ es, EvO L X none o' B e) :
    ∀ op ∈ MemOp.ofEvents 0 fn pos es, Ok0 (ShP L X) (OwnGo L old j O) (RdG L X old) (old + j) op := by
  intro op hop
  obtain ⟨e, he, rfl⟩ := of_mem hop
  refine ⟨rfl, fun x hx => ?_⟩
  obtain ⟨a, ha, ⟨hk, h1 | ⟨i', h1, _⟩ | ⟨h1, h2, h3, h4, h5⟩⟩ | ⟨hk, h1⟩ | ⟨hk, _, h1⟩⟩ := (h e he).touch x hx
  · have hlo := hls.lo0 _ h1
    refine .inr ⟨?_, fun k _ _ ho => ?_, fun _ k _ _ hr => ?_⟩
    · rintro ⟨a', e', h6⟩
      rw [ha] at e'
      cases e'
      rcases h6 with h6 | h6
      · have := (hX _ h6).1; omega
      · have := hL.hW; omega
    · obtain ⟨i, hi, _, a', e', h6⟩ := ho
      rw [ha] at e'
      cases e'
      rcases h6 with h6 | rfl
      · exact hls.dj0 i hi _ h6 h1
      · have := hL.hC; simp only at hlo; omega
    · obtain ⟨_, a', e', h6, _⟩ := hr
      rw [ha] at e'
      cases e'
      omega
  · cases h1
  · refine .inr ⟨?_, fun k _ _ ho => ?_, fun hw => by rw [h1] at hw; cases hw⟩
    · rintro ⟨a', e', h6⟩
      rw [ha] at e'
      cases e'
      rcases h6 with h6 | h6
      · exact h5 h6
      · exact h3 h6
    · obtain ⟨i, hi, _, a', e', h6⟩ := ho
      rw [ha] at e'
      cases e'
      rcases h6 with h6 | rfl
      · have := (hls.lo i hi _ h6).1; omega
      · exact h4 rfl
  · exact .inl ⟨⟨a, ha, .inr h1⟩, by rw [hk]; simp⟩
  · exact .inl ⟨⟨a, ha, .inr h1⟩, by rw [hk]; simp⟩
theorem evO_at {B : Nat} {ci : Option Nat} {e : Event} (h : EvO L X ci o' B e) : ∀ x, (MemAct.ofEvent e).touch? = some x → x.loc.isMemory = true ∧ (x.kind = .atomic → ShP L X x.loc) := by
  intro x hx
  obtain ⟨a, ha, ⟨hk, _⟩ | ⟨hk, h1⟩ | ⟨hk, _, h1⟩⟩ := h.touch x hx
  · exact ⟨by rw [ha]; rfl, fun e' => by rw [hk] at e'; cases e'⟩
  · exact ⟨by rw [ha]; rfl, fun _ => ⟨a, ha, .inr h1⟩⟩
  · exact ⟨by rw [ha]; rfl, fun e' => by rw [hk] at e'; cases e'⟩
end

theorem lists_mono {L : Lay} {j : Nat} {O : Nat → List Nat} {o0 : List Nat} {w w' : World} (h : Lists L j O o0 w.heap.size) (hs : w.heap.size ≤ w'.heap.size) : Lists L j O o0 w'.heap.size :=
  ⟨fun i hi b hb => ⟨(h.lo i hi b hb).1, Nat.lt_of_lt_of_le (h.lo i hi b hb).2 hs⟩, fun b hb => ⟨(h.lo0 b hb).1, Nat.lt_of_lt_of_le (h.lo0 b hb).2 hs⟩, h.dj, h.dj0⟩

variable [Payload]
section
variable {L : Lay} {X : Nat → Prop} {old j : Nat} {O : Nat → List Nat} {o0 o' : List Nat} {w w' : World} {ty : TypeId}
theorem lists_w {i : Nat} (hi : i < j) (h : Lists L j O o0 w.heap.size) (hN : L.N ≤ w.heap.size) {ci : Option Nat} (hd : DO L ci (O i) o' w w') : Lists L j (upd O i o') o0 w'.heap.size := by
  have hs := hd.size
  refine ⟨fun i' hi' b hb => ?_, fun b hb => ?_, fun i1 i2 h1 h2 hne b hb hb' => ?_, fun i1 h1 b hb hb' => ?_⟩
  · by_cases e : i' = i
    · subst e
      rw [upd_same] at hb
      rcases hd.new b hb with hb | ⟨rfl, hb⟩
      · have := h.lo i' hi' b hb; omega
      · omega
    · rw [upd_ne O _ e] at hb
      have := h.lo i' hi' b hb; omega
  · have := h.lo0 b hb; omega
  · by_cases e1 : i1 = i
    · subst e1
      rw [upd_same] at hb
      rw [upd_ne O _ (Ne.symm hne)] at hb'
      rcases hd.new b hb with hb | ⟨rfl, hb⟩
      · exact h.dj i1 i2 h1 h2 hne b hb hb'
      · have := (h.lo i2 h2 _ hb').2; omega
    · rw [upd_ne O _ e1] at hb
      by_cases e2 : i2 = i
      · subst e2
        rw [upd_same] at hb'
        rcases hd.new b hb' with hb' | ⟨rfl, _⟩
        · exact h.dj i1 i2 h1 h2 hne b hb hb'
        · have := (h.lo i1 h1 _ hb).2; omega
      · rw [upd_ne O _ e2] at hb'
        exact h.dj i1 i2 h1 h2 hne b hb hb'
  · by_cases e1 : i1 = i
    · subst e1
      rw [upd_same] at hb
      rcases hd.new b hb with hb | ⟨rfl, _⟩
      · exact h.dj0 i1 h1 b hb hb'
      · have := (h.lo0 _ hb').2; omega
    · rw [upd_ne O _ e1] at hb
      exact h.dj0 i1 h1 b hb hb'
theorem lists_0 (h : Lists L j O o0 w.heap.size) (hN : L.N ≤ w.heap.size) {ci : Option Nat} (hd : DO L ci o0 o' w w') : Lists L j O o' w'.heap.size := by
  have hs := hd.size
  refine ⟨fun i' hi' b hb => ?_, fun b hb => ?_, h.dj, fun i1 h1 b hb hb' => ?_⟩
  · have := h.lo i' hi' b hb; omega
  · rcases hd.new b hb with hb | ⟨rfl, hb⟩
    · have := h.lo0 b hb; omega
    · omega
  · rcases hd.new b hb' with hb' | ⟨rfl, _⟩
    · exact h.dj0 i1 h1 b hb hb'
    · have := (h.lo i1 h1 _ hb).2; omega
end

section
variable {H : Ph} {AW : List Nat → Goroutine → World → Prop} {old j : Nat} {t0 : Trace} {gs : Array Goroutine} {w : World} {sl : Option (Nat × Nat)} {t : Trace} {D : Nat → WD} {O : Nat → List Nat} {o0 : List Nat} {q : Nat → Nat}
  {tag : CTag} {f0 d0 : Nat} {a : Goroutine} {st sm : Int}

/-- Nobody's list holds the group or the payload. -/
theorem Cm.outW (K : PhOk H AW) (h : Cm H old t0 j gs w t D O o0 d0 q) {i : Nat} (hi : i < j) : H.L.Wg ∉ O i ∧ H.L.C ∉ O i := by
  have hW := K.hL.hW
  have hC := K.hL.hC
  exact ⟨fun hb => by have := (h.ls.lo i hi _ hb).1; omega, fun hb => by have := (h.ls.lo i hi _ hb).1; omega⟩
theorem Cm.out0 (K : PhOk H AW) (h : Cm H old t0 j gs w t D O o0 d0 q) : H.L.Wg ∉ o0 ∧ H.L.C ∉ o0 := by
  have hW := K.hL.hW
  have hC := K.hL.hC
  exact ⟨fun hb => by have := (h.ls.lo0 _ hb).1; omega, fun hb => by have := (h.ls.lo0 _ hb).1; omega⟩

set_option maxHeartbeats 1600000 in
theorem stepWk (K : PhOk H AW) (ha : gs[0]? = some a) (hcs : H.Cs AW tag j f0 d0 o0 a w) (hcm : Cm H old t0 j gs w t D O o0 d0 q) (hwg : WgAt H.ty H.L.Wg w st sm) (hmode : ConcN.Mode j D tag st sm)
    (hacq : tag = .ret → AcqO H.L.Wg old j t) {i : Nat} (hi : i < j) {g : Goroutine} (hg : gs[old + 1 + i]? = some g) (hrun : g.status = .running) :
    ∃ m₁ ops μ', runT H.P (crowd gs w sl) (old + 1 + i) = (.next m₁, ops) ∧ Lt2 μ' (phi H.L.n (Vc j D) tag + Ssum j D, f0 + 2 * Fsum j D + 2 * sumTo (old + 1) q) ∧ InvP H AW old t0 μ' m₁ (t ++ ops) := by
  obtain ⟨g₁, hg₁, hs⟩ := hcm.wk i hi
  obtain rfl : g = g₁ := by rw [hg] at hg₁; exact Option.some.inj hg₁
  generalize hst : (D i).stage = s at hs
  generalize hfu : (D i).fuel = m at hs
  generalize hde : (D i).deaf = dd at hs
  have hb := hcs.bound
  have hn := K.hn
  have hVj := Vc_le j D
  have hdk : Deaf t (old + 1 + i) = dd := by rw [hcm.deafW i hi, hde]
  have hWs : H.L.Wg < w.heap.size := Nat.lt_of_lt_of_le K.hL.hW hcm.N
  have eO : upd O i (O i) = O := upd_self O i
  -- A STEP OF THE LIBRARY's BOOKKEEPING: at most the group's block turns
  have bookG : ∀ {g' : Goroutine} {w' : World} {es : Array Event} {s' m' dd' : Nat} {st' sm' : Int}, stepG H.P false g w = .go g' w' es → Aside H.L.Wg w w' → WgAt H.ty H.L.Wg w' st' sm' → (∀ e ∈ es, Bk H.L.Wg e) →
      (∀ jx e, es[jx]? = some e → (MemAct.ofEvent e).touch? = none ∨ 0 < deafBehind dd (es.extract 0 jx)) → H.Wk i (O i) s' m' dd' g' w' → deafBehind dd es = dd' → s ≤ 6 →
      (∀ tag', (tag' = tag ∨ (tag = .blk ∧ tag' = .w3)) → (mayWake H.P g = true → g'.status = .running → tag' ≠ .blk) → ConcN.Mode j (upd D i ⟨s', m', dd'⟩) tag' st' sm') → (tag = .ret → AcqO H.L.Wg old j (t ++ MemOp.ofEvents (old + 1 + i) g.frame.fn g.frame.place es)) → ((s' < s ∧ cnt ⟨s', m', dd'⟩ ≤ cnt (D i)) ∨ (s' = s ∧ m' + 1 = m)) →
      ∃ m₁ ops μ', runT H.P (crowd gs w sl) (old + 1 + i) = (.next m₁, ops) ∧ Lt2 μ' (phi H.L.n (Vc j D) tag + Ssum j D, f0 + 2 * Fsum j D + 2 * sumTo (old + 1) q) ∧ InvP H AW old t0 μ' m₁ (t ++ ops) := by
    intro g' w' es s' m' dd' st' sm' hgo hAs hwg' hbk hd hs' hdd h6 hmode' hacq' hlt
    obtain ⟨cs, hcs1, hcs2⟩ := hcm.pay
    have hsz : w'.heap.size = w.heap.size := hAs.size
    exact workerM K ha hcs hcm hi (o' := O i) hg hgo (RO.of_wg K.hL hAs ⟨_, _, hwg'⟩ (hcm.out0 K).1) (by rw [eO]; exact lists_mono hcm.ls (Nat.le_of_eq hsz.symm)) (fun _ h => h) (fun _ h => .inl h)
      (fun i' hi' _ => RO.of_wg K.hL hAs ⟨_, _, hwg'⟩ (hcm.outW K hi').1) hs' (bk_okW hbk) (norel_of_Bk hbk) (fun e he => bk_low (hbk e he) (by rw [hsz]; exact hWs)) (fun e he x hx => ⟨(bk_touch (X := H.X) (hbk e he) x hx).1, fun _ => (bk_touch (hbk e he) x hx).2.1⟩)
      (by rw [hde]; exact hdd) (fun _ => let ⟨r, hr⟩ := hcm.rel i hi (by omega); ⟨r, hr.book hdk _ _ hbk hd⟩) (fun _ => K.hF.1 _ _ _ _ (RO.of_wg K.hL hAs ⟨_, _, hwg'⟩ (hcm.outW K hi).1) (hcm.fin i hi (by omega)))
      ⟨cs, (hAs.block H.L.C K.hL.ne).trans hcs1, hcs2⟩ (fun i' _ => cell_of_block (hAs.block H.L.C K.hL.ne) i') hwg' hmode' hacq' (by rw [hst, hfu]; exact hlt)
  have book : ∀ {g' : Goroutine} {w' : World} {es : Array Event} {s' m' dd' : Nat} {st' sm' : Int}, stepG H.P false g w = .go g' w' es → Aside H.L.Wg w w' → WgAt H.ty H.L.Wg w' st' sm' → (∀ e ∈ es, Bk H.L.Wg e) →
      (∀ jx e, es[jx]? = some e → (MemAct.ofEvent e).touch? = none ∨ 0 < deafBehind dd (es.extract 0 jx)) → H.Wk i (O i) s' m' dd' g' w' → deafBehind dd es = dd' → s ≤ 6 →
      ConcN.Mode j (upd D i ⟨s', m', dd'⟩) tag st' sm' → (tag = .ret → AcqO H.L.Wg old j (t ++ MemOp.ofEvents (old + 1 + i) g.frame.fn g.frame.place es)) → ((s' < s ∧ cnt ⟨s', m', dd'⟩ ≤ cnt (D i)) ∨ (s' = s ∧ m' + 1 = m)) →
      ∃ m₁ ops μ', runT H.P (crowd gs w sl) (old + 1 + i) = (.next m₁, ops) ∧ Lt2 μ' (phi H.L.n (Vc j D) tag + Ssum j D, f0 + 2 * Fsum j D + 2 * sumTo (old + 1) q) ∧ InvP H AW old t0 μ' m₁ (t ++ ops) :=
    fun hgo hAs hwg' hbk hd hs' hdd h6 hmode' hacq' hlt => bookG hgo hAs hwg' hbk hd hs' hdd h6 (fun _ ht _ => hmode'.retag ht) hacq' hlt
  have idle : ∀ {g' : Goroutine} {m' : Nat}, stepG H.P false g w = .go g' w #[] → H.Wk i (O i) s m' dd g' w → m' + 1 = m → s ≤ 6 → s ≠ 1 →
      ∃ m₁ ops μ', runT H.P (crowd gs w sl) (old + 1 + i) = (.next m₁, ops) ∧ Lt2 μ' (phi H.L.n (Vc j D) tag + Ssum j D, f0 + 2 * Fsum j D + 2 * sumTo (old + 1) q) ∧ InvP H AW old t0 μ' m₁ (t ++ ops) := by
    intro g' m' hgo hs' hm h6 h1
    exact book hgo (.refl H.L.Wg w) hwg (by simp) (by simp) hs' rfl h6 (by have := hmode.same (i := i) m' dd; rwa [hst] at this) (fun e => absurd e (hmode.not_ret hi (by omega))) (.inr ⟨rfl, hm⟩)
  have nr : s ≠ 1 → tag ≠ .ret := fun h => hmode.not_ret hi (by omega)
  cases hs with
  | r0 h =>
    rcases h.cases with hstop | ⟨m', g', w', es, o', rfl, hgo, hdo, hev, hg'⟩
    · obtain ⟨⟨v, _, _, g', hgo, m₂, hk⟩, hfin⟩ := hstop
      exact workerM K ha hcs hcm hi (o' := O i) hg hgo (.refl w) (by rw [eO]; exact hcm.ls) (fun _ h => h) (fun _ h => .inl h) (fun _ _ _ => RO.refl w) (.k1 hk)
        (by
          intro op hop
          obtain ⟨e, he, rfl⟩ := of_mem hop
          rw [Array.mem_singleton] at he
          subst he
          exact ⟨rfl, fun x hx => by simp [ConcR.mk, MemAct.ofEvent, MemAct.touch?] at hx⟩)
        (by intro e he; rw [Array.mem_singleton] at he; subst he; simp [ConcR.mk]) (by intro e he x hx; rw [Array.mem_singleton] at he; subst he; simp [ConcR.mk, MemAct.ofEvent, MemAct.touch?] at hx)
        (by intro e he x hx; rw [Array.mem_singleton] at he; subst he; simp [ConcR.mk, MemAct.ofEvent, MemAct.touch?] at hx) (by rw [hde]; rfl)
        (fun _ => ⟨t.size, RelBy.new hdk _ _⟩) (fun _ => hfin) hcm.pay (fun _ _ => rfl) hwg (fun _ ht _ => (hmode.counted hi (by omega) (.inl rfl) _ _).retag ht) (fun e => absurd e (nr (by omega))) (.inl ⟨by omega, by simp [cnt, hst]⟩)
    · have hls' := lists_w hi hcm.ls hcm.N hdo
      exact workerM K ha hcs hcm hi hg hgo (RO.of_do K.hL hdo hcm.N (fun b hb => (hcm.ls.lo i hi b hb).1) (fun b hb => ⟨(hcm.ls.lo0 b hb).2, fun hb' => hcm.ls.dj0 i hi b hb' hb, fun e => (hcm.out0 K).2 (e ▸ hb)⟩) (fun _ e => by cases e))
        hls' (fun b hb => by rcases hdo.own with e | e <;> rw [e] <;> simp [hb]) (fun b hb => (hdo.new b hb).imp id fun e => Nat.le_of_eq e.1.symm)
        (fun i' hi' hne => RO.of_do K.hL hdo hcm.N (fun b hb => (hcm.ls.lo i hi b hb).1) (fun b hb => ⟨(hcm.ls.lo i' hi' b hb).2, fun hb' => hcm.ls.dj i' i hi' hi hne b hb hb', fun e => (hcm.outW K hi').2 (e ▸ hb)⟩) (fun x e e' => by cases e; cases e'; exact hne rfl))
        (.r0 hg') (evO_okW hi hev) (fun e he => (hev e he).rel) (fun e he => evO_low (hev e he) (fun b hb => (hls'.lo i hi b (by rw [upd_same]; exact hb)).2) K.hL (Nat.le_trans hcm.N hdo.size)) (fun e he => evO_at (hev e he)) (by rw [hde]; exact deafBehind_idle (fun e he => ⟨(hev e he).dis, (hev e he).ena⟩) 0) (fun h => by omega) (fun h => by omega)
        (hdo.pay hcm.pay) (fun i' h => hdo.cells i' (fun e => by cases e; omega)) (hwg.of_block (hdo.keep H.L.Wg hWs (hcm.outW K hi).1 (Ne.symm K.hL.ne))) (fun _ ht _ => ConcN.Mode.retag (by have := hmode.same (i := i) m' 0; rwa [hst] at this) ht) (fun e => absurd e (nr (by omega))) (.inr ⟨hst.symm, by omega⟩)
  | k1 h =>
    rcases Goes.cases h with hstop | ⟨m', rfl, hstep⟩
    · obtain ⟨_, g', hgo, m₂, hk⟩ := hstop w (RW.refl w)
      exact book hgo (.refl H.L.Wg w) hwg (by intro e he; simp at he; subst he; exact .inl rfl) (by intro jx e he; exact .inl (by have := Array.mem_of_getElem? he; simp at this; subst this; rfl)) (.d1 hk) rfl (by omega)
        (hmode.counted hi (by omega) (.inr rfl) _ _) (fun e => absurd e (nr (by omega))) (.inl ⟨by omega, by simp [cnt, hst]⟩)
    · obtain ⟨g', w', es, hgo, ⟨rfl, rfl⟩, hg'⟩ := hstep w (RW.refl w)
      exact idle hgo (.k1 hg') rfl (by omega) (by omega)
  | d1 h =>
    rcases Goes.cases h with hstop | ⟨m', rfl, hstep⟩
    · obtain ⟨_, hall⟩ := hstop w (RW.refl w)
      have hc1 : cnt (D i) = 1 := by simp [cnt, hst]
      have hV1 : 1 ≤ Vc j D := by have := le_sumTo (f := fun x => cnt (D x)) hi; simp only [Vc]; omega
      have bk2 : ∀ e ∈ #[rd (stA H.L.Wg), wr (stA H.L.Wg)], Bk H.L.Wg e := by intro e he; simp at he; rcases he with rfl | rfl <;> exact bk_cell _ _ rfl
      have df2 : ∀ jx e, (#[rd (stA H.L.Wg), wr (stA H.L.Wg)] : Array Event)[jx]? = some e → (MemAct.ofEvent e).touch? = none ∨ 0 < deafBehind 1 ((#[rd (stA H.L.Wg), wr (stA H.L.Wg)] : Array Event).extract 0 jx) := by
        intro jx e he
        match jx, he with
        | 0, _ => exact .inr (by simp [deafBehind])
        | 1, _ => exact .inr (by simp [deafBehind, rd])
        | jx + 2, he => simp at he
      have hq0 : ∀ q, cnt (⟨1, q, 1⟩ : WD) = 0 := fun _ => rfl
      have opq : ∀ q, OpenSt j D → OpenSt j (upd D i ⟨1, q, 1⟩) := fun q h a ha => by
        by_cases e : a = i
        · subst e; rw [upd_same]; simp
        · rw [upd_ne D _ e]; exact h a ha
      cases hmode with
      | opn h1 h2 h3 =>
        obtain ⟨v, hv⟩ : ∃ v, Vc j D + pend tag = v + 1 := ⟨Vc j D + pend tag - 1, by omega⟩
        rw [hv] at hwg
        have hw1 : WgAt H.ty H.L.Wg w (((v : Nat) + 1) * KK + ((0 : Nat) : Int)) 0 := by simpa using hwg
        obtain ⟨g', hgo, _, hq⟩ := hall v 0 (by omega) (by omega) hw1
        obtain ⟨q', hq⟩ := hq (by omega)
        have hv' : Vc j (upd D i ⟨1, q', 1⟩) + pend tag = v := by have := Vc_upd D (⟨1, q', 1⟩ : WD) hi; have := hq0 q'; omega
        refine book hgo (aside_setCell w (stA H.L.Wg) _) (hwg.setSt _) bk2 df2 (.quit hq) rfl (by omega) ?_ (fun e => absurd e (nr (by omega))) (.inl ⟨by omega, by simp [cnt]⟩)
        have e : ((v : Nat) : Int) * KK + ((0 : Nat) : Int) = ((Vc j (upd D i ⟨1, q', 1⟩) + pend tag : Nat) : Int) * KK := by rw [hv']; simp
        rw [e]
        exact .opn h1 (opq q' h2) (fun vs ev => by have := h3 vs ev; omega)
      | reg h1 h2 h3 =>
        obtain ⟨v, hv⟩ : ∃ v, Vc j D = v + 1 := ⟨Vc j D - 1, by omega⟩
        rw [hv] at hwg
        have hp : pend tag = 0 := by cases tag <;> first | rfl | exact h1.elim
        have hw1 : WgAt H.ty H.L.Wg w (((v : Nat) + 1) * KK + ((1 : Nat) : Int)) 0 := by simpa using hwg
        obtain ⟨g', hgo, hl, hq⟩ := hall v 1 (by omega) (by omega) hw1
        by_cases hv0 : v = 0
        · subst hv0
          obtain ⟨m₂, hk⟩ := hl ⟨rfl, rfl⟩
          refine book hgo (aside_setCell w (stA H.L.Wg) _) (hwg.setSt _) bk2 df2 (.d2 hk) rfl (by omega) ?_ (fun e => absurd e (nr (by omega))) (.inl ⟨by omega, by simp [cnt]⟩)
          have hoth : ∀ a, a < j → a ≠ i → (D a).stage = 1 := fun a ha e => by
            have c0 := others_uncounted hi hv hc1 a ha e
            have := h2 a ha
            simp only [cnt] at c0
            split at c0 <;> omega
          have := ConcN.Mode.last (j := j) (D := upd D i ⟨4, m₂, 1⟩) (tag := tag) i h1 hi (by rw [upd_same]; simp) (fun a ha e => by rw [upd_ne D _ e]; exact hoth a ha e)
          rw [upd_same] at this
          simpa using this
        · obtain ⟨q', hq⟩ := hq (by omega)
          have hv' : Vc j (upd D i ⟨1, q', 1⟩) = v := by have := Vc_upd D (⟨1, q', 1⟩ : WD) hi; have := hq0 q'; omega
          refine book hgo (aside_setCell w (stA H.L.Wg) _) (hwg.setSt _) bk2 df2 (.quit hq) rfl (by omega) ?_ (fun e => absurd e (nr (by omega))) (.inl ⟨by omega, by simp [cnt]⟩)
          have e : ((v : Nat) : Int) * KK + ((1 : Nat) : Int) = ((Vc j (upd D i ⟨1, q', 1⟩) : Nat) : Int) * KK + 1 := by rw [hv']; simp
          rw [e]
          exact .reg h1 (opq q' h2) (by omega)
      | last Lx _ h2 h3 h4 =>
        by_cases e : i = Lx
        · subst e; omega
        · have := h4 i hi e; omega
      | sema h2 => have := h2 i hi; omega
      | fin _ h2 => have := h2 i hi; omega
    · obtain ⟨g', w', es, hgo, ⟨rfl, rfl⟩, hg'⟩ := hstep w (RW.refl w)
      exact idle hgo (.d1 hg') rfl (by omega) (by omega)
  | d2 h =>
    rcases Goes.cases h with hstop | ⟨m', rfl, hstep⟩
    · obtain ⟨_, hx⟩ := hstop w (RW.refl w)
      obtain ⟨hW3, hoth, rfl, rfl⟩ := hmode.isLast hi (by omega)
      simp only [hst] at hwg
      obtain ⟨g', hgo, m₂, hk⟩ := hx (by simpa using hwg)
      refine book hgo (.refl H.L.Wg w) hwg (by intro e he; simp at he; subst he; exact bk_cell _ _ rfl) (by intro jx e he; match jx, he with | 0, _ => exact .inr (by simp [deafBehind]) | jx + 1, he => simp at he) (.d3 hk) rfl (by omega) ?_ (fun e => absurd e (nr (by omega))) (.inl ⟨by omega, by simp [cnt]⟩)
      have := ConcN.Mode.last (j := j) (D := upd D i ⟨3, m₂, 1⟩) (tag := tag) i hW3 hi (by rw [upd_same]; simp) (fun a ha e => by rw [upd_ne D _ e]; exact hoth a ha e)
      rw [upd_same] at this
      simpa using this
    · obtain ⟨g', w', es, hgo, ⟨rfl, rfl⟩, hg'⟩ := hstep w (RW.refl w)
      exact idle hgo (.d2 hg') rfl (by omega) (by omega)
  | d3 h =>
    rcases Goes.cases h with hstop | ⟨m', rfl, hstep⟩
    · obtain ⟨_, hx⟩ := hstop w (RW.refl w)
      obtain ⟨hW3, hoth, rfl, rfl⟩ := hmode.isLast hi (by omega)
      simp only [hst] at hwg
      obtain ⟨g', hgo, m₂, hk⟩ := hx (by simpa using hwg)
      refine book hgo (aside_setCell w (stA H.L.Wg) _) (hwg.setSt 0) (by intro e he; simp at he; subst he; exact bk_cell _ _ rfl) (by intro jx e he; match jx, he with | 0, _ => exact .inr (by simp [deafBehind]) | jx + 1, he => simp at he) (.d4 hk) rfl (by omega) ?_ (fun e => absurd e (nr (by omega))) (.inl ⟨by omega, by simp [cnt]⟩)
      have := ConcN.Mode.last (j := j) (D := upd D i ⟨2, m₂, 1⟩) (tag := tag) i hW3 hi (by rw [upd_same]; simp) (fun a ha e => by rw [upd_ne D _ e]; exact hoth a ha e)
      rw [upd_same] at this
      simpa using this
    · obtain ⟨g', w', es, hgo, ⟨rfl, rfl⟩, hg'⟩ := hstep w (RW.refl w)
      exact idle hgo (.d3 hg') rfl (by omega) (by omega)
  | d4 h =>
    rcases Goes.cases h with hstop | ⟨m', rfl, hstep⟩
    · obtain ⟨_, hmw, hx⟩ := hstop w (RW.refl w)
      obtain ⟨hW3, hoth, rfl, rfl⟩ := hmode.isLast hi (by omega)
      simp only [hst] at hwg
      obtain ⟨g', hgo, q', hq⟩ := hx (by simpa using hwg)
      have hrun' : g'.status = .running := by
        cases q' with
        | zero => exact absurd hq.2 (by decide)
        | succ q' => exact hq.elim (fun x => absurd x.2 (by decide)) (fun x => x.1)
      refine bookG hgo (aside_setCell w (smA H.L.Wg) _) (hwg.setSm 1) (es := semEvents (smA H.L.Wg)) ?_ ?_ (.quit hq) (by simp [deafBehind, semEvents]) (by omega) ?_ (fun e => absurd e (nr (by omega))) (.inl ⟨by omega, by simp [cnt]⟩)
      · exact bk_sem
      · intro jx e he
        match jx, he with
        | 0, he => simp [semEvents] at he; subst he; exact .inl rfl
        | 1, _ => exact .inr (by simp [deafBehind, semEvents])
        | 2, _ => exact .inr (by simp [deafBehind, semEvents])
        | 3, he => simp [semEvents] at he; subst he; exact .inl rfl
        | jx + 4, he => simp [semEvents] at he
      · intro tag' ht hw
        have hnb := hw hmw hrun'
        have e3 : tag' = .w3 := by
          rcases ht with rfl | ⟨_, rfl⟩
          · cases tag' <;> first | rfl | exact hW3.elim | exact absurd rfl hnb
          · rfl
        subst e3
        simp only [if_true]
        exact .sema fun a ha => by
          by_cases e : a = i
          · subst e; rw [upd_same]
          · rw [upd_ne D _ e]; exact hoth a ha e
    · obtain ⟨g', w', es, hgo, ⟨rfl, rfl⟩, hg'⟩ := hstep w (RW.refl w)
      exact idle hgo (.d4 hg') rfl (by omega) (by omega)
  | quit h =>
    cases m with
    | zero => rw [h.1] at hrun; cases hrun
    | succ q' =>
      rcases h with ⟨hf, _⟩ | ⟨_, g', es, hmute, hstep, hq⟩
      · rw [hf] at hrun; cases hrun
      · have hbk : ∀ e ∈ es, Bk H.L.Wg e := fun e he => Go.ConcR.bk_of_mute (hmute e he)
        have hno : ∀ jx e, es[jx]? = some e → (MemAct.ofEvent e).touch? = none ∨ 0 < deafBehind dd (es.extract 0 jx) := fun jx e he => .inl (touch_mute (hmute e (Array.mem_of_getElem? he)))
        refine book (hstep w) (.refl H.L.Wg w) hwg hbk hno (.quit hq) rfl (by omega) (by have := hmode.same (i := i) q' (deafBehind dd es); rwa [hst] at this) (fun e => (hacq e).app fun i' r hi' hr => ?_) (.inr ⟨rfl, rfl⟩)
        by_cases e' : i' = i
        · subst e'; exact hr.book hdk _ _ hbk hno
        · exact hr.appOther g_of_ofEvents (by omega)
end
end

section
open Go.Conc Go.ConcN
open Go.ConcR (KK wgBlock WgAt stA smA rd wr Payload DC0 Bk g_of_ofEvents ofEvent_mk)

variable [Payload]

/-- The end of a phase: all workers only leave; the starter stands at its anchor. -/
structure EndP (H : Ph) (old : Nat) (t0 : Trace) (gs : Array Goroutine) (w : World) (t : Trace) (a : Goroutine) : Prop where
  a0 : gs[0]? = some a
  run : a.status = .running
  anc : H.Anc a w
  cm : ∃ D O o0 d0 q, Cm H old t0 H.L.n gs w t D O o0 0 q ∧ AllQuit H.L.n D ∧ d0 = Deaf t 0
  acq : AcqO H.L.Wg old H.L.n t
  wg : WgAt H.ty H.L.Wg w 0 0

section
variable {H : Ph} {AW : List Nat → Goroutine → World → Prop} {old j : Nat} {t0 : Trace} {gs : Array Goroutine} {w w' : World} {sl : Option (Nat × Nat)} {t : Trace} {D : Nat → WD} {O : Nat → List Nat} {o0 o0' : List Nat} {q : Nat → Nat}
  {tag tag' : CTag} {f0 f' d0 : Nat} {a a' : Goroutine} {st sm st' sm' : Int} {es : Array Event}

theorem EndP.at (K : PhOk H AW) (h : EndP H old t0 gs w t a) (d : Nat) : EndP H old t0 gs (w.at d) t a := by
  obtain ⟨D, O, o0, d0, q, hcm, hq, hd⟩ := h.cm
  exact ⟨h.a0, h.run, K.hAnc _ _ d h.anc, ⟨D, O, o0, d0, q, hcm.at K.hF d, hq, hd⟩, h.acq, h.wg⟩

/-- An idle step of the starter's. -/
theorem idleS (K : PhOk H AW) (ha : gs[0]? = some a) (hcm : Cm H old t0 j gs w t D O o0 d0 q) (hwg : WgAt H.ty H.L.Wg w st sm) (hmode : ConcN.Mode j D tag st sm) (hacq : tag = .ret → AcqO H.L.Wg old j t)
    (hgo : stepG H.P true a w = .go a' w' es) (hdo : DO H.L none o0 o0' w w') (hev : ∀ e ∈ es, EvO H.L H.X none o0' w'.heap.size e) (hcs' : H.Cs AW tag j f' d0 o0' a' w') (hf : f' < f0) :
    ∃ m₁ ops μ', runT H.P (crowd gs w sl) 0 = (.next m₁, ops) ∧ Lt2 μ' (phi H.L.n (Vc j D) tag + Ssum j D, f0 + 2 * Fsum j D + 2 * sumTo (old + 1) q) ∧ InvP H AW old t0 μ' m₁ (t ++ ops) := by
  have hWs : H.L.Wg < w.heap.size := Nat.lt_of_lt_of_le K.hL.hW hcm.N
  have hls := lists_0 hcm.ls hcm.N hdo
  have hdf : deafBehind d0 es = d0 := deafBehind_idle (fun e he => ⟨(hev e he).dis, (hev e he).ena⟩) d0
  exact callerM K ha hcm hgo hdo.size hls (fun i hi => RO.of_do K.hL hdo hcm.N (fun b hb => (hcm.ls.lo0 b hb).1) (fun b hb => ⟨(hcm.ls.lo i hi b hb).2, hcm.ls.dj0 i hi b hb, fun e => (hcm.outW K hi).2 (e ▸ hb)⟩) (fun _ _ e => by cases e))
    (evO_ok0 hls K.hL K.hX hev) (fun e he => (hev e he).rel) (fun e he => evO_low (hev e he) (fun b hb => (hls.lo0 b hb).2) K.hL (Nat.le_trans hcm.N hdo.size)) (fun e he => evO_at (hev e he)) (hdo.pay hcm.pay) (fun i' _ => hdo.cells i' (by simp)) (by rw [hdf]; exact hcs') (hwg.of_block (hdo.keep H.L.Wg hWs (hcm.out0 K).1 (Ne.symm K.hL.ne))) hmode
    (fun e => (hacq e).app fun i r _ hr => hr.appOther g_of_ofEvents (by omega)) (.inr ⟨rfl, hf⟩)

/-- A step of the library's bookkeeping. -/
theorem bookS (K : PhOk H AW) (ha : gs[0]? = some a) (hcm : Cm H old t0 j gs w t D O o0 d0 q)
    (hgo : stepG H.P true a w = .go a' w' es) (hAs : Aside H.L.Wg w w') (hwg' : WgAt H.ty H.L.Wg w' st' sm') (hbk : ∀ e ∈ es, Bk H.L.Wg e) (hcs' : H.Cs AW tag' j f' (deafBehind d0 es) o0 a' w')
    (hmode' : ConcN.Mode j D tag' st' sm') (hne : tag' ≠ .ret) (hlt : phi H.L.n (Vc j D) tag' < phi H.L.n (Vc j D) tag ∨ (phi H.L.n (Vc j D) tag' = phi H.L.n (Vc j D) tag ∧ f' < f0)) :
    ∃ m₁ ops μ', runT H.P (crowd gs w sl) 0 = (.next m₁, ops) ∧ Lt2 μ' (phi H.L.n (Vc j D) tag + Ssum j D, f0 + 2 * Fsum j D + 2 * sumTo (old + 1) q) ∧ InvP H AW old t0 μ' m₁ (t ++ ops) := by
  obtain ⟨cs, hc1, hc2⟩ := hcm.pay
  have hWs : H.L.Wg < w.heap.size := Nat.lt_of_lt_of_le K.hL.hW hcm.N
  have hsz : w'.heap.size = w.heap.size := hAs.size
  exact callerM K ha hcm hgo (Nat.le_of_eq hsz.symm) (lists_mono hcm.ls (Nat.le_of_eq hsz.symm)) (fun i hi => RO.of_wg K.hL hAs ⟨_, _, hwg'⟩ (hcm.outW K hi).1) (bk_ok0 hbk) (norel_of_Bk hbk) (fun e he => bk_low (hbk e he) (by rw [hsz]; exact hWs))
    (fun e he x hx => ⟨(bk_touch (X := H.X) (hbk e he) x hx).1, fun _ => (bk_touch (hbk e he) x hx).2.1⟩) ⟨cs, (hAs.block H.L.C K.hL.ne).trans hc1, hc2⟩ (fun i' _ => cell_of_block (hAs.block H.L.C K.hL.ne) i') hcs' hwg' hmode' (fun e => absurd e hne) hlt

/-- The load in Wait. -/
theorem loadS (K : PhOk H AW) (ha : gs[0]? = some a) (hcm : Cm H old t0 H.L.n gs w t D O o0 1 q) (hwg : WgAt H.ty H.L.Wg w st sm) (hmode : ConcN.Mode H.L.n D .w1 st sm) (h : H.GP (H.AtW1 AW) f0 o0 a w) :
    ∃ m₁ ops μ', runT H.P (crowd gs w sl) 0 = (.next m₁, ops) ∧ Lt2 μ' (phi H.L.n (Vc H.L.n D) .w1 + Ssum H.L.n D, f0 + 2 * Fsum H.L.n D + 2 * sumTo (old + 1) q) ∧ InvP H AW old t0 μ' m₁ (t ++ ops) := by
  have hn := K.hn
  rcases h.cases with hstop | ⟨m', a', w', es, o', rfl, hgo, hdo, hev, hg'⟩
  · obtain ⟨_, hall⟩ := hstop
    obtain ⟨ho, rfl, rfl, _⟩ := hmode.open_inv trivial
    have hV := Vc_le H.L.n D
    obtain ⟨a', hgo, h0, hne⟩ := hall (Vc H.L.n D) (by omega) (by simpa [pend] using hwg)
    by_cases hv : Vc H.L.n D = 0
    · obtain ⟨m₂, hk⟩ := h0 hv
      refine bookS K ha hcm hgo (.refl H.L.Wg w) hwg bk_rd (tag' := .ke) (.ke hk) ?_ (by simp) (.inl (by simp only [phi]; omega))
      have e : ((Vc H.L.n D + pend .w1 : Nat) : Int) * KK = 0 := by rw [hv]; simp [pend]
      rw [e]
      exact .fin trivial (allQuit_of ho hv)
    · obtain ⟨m₂, hk⟩ := hne hv
      exact bookS K ha hcm hgo (.refl H.L.Wg w) hwg bk_rd (tag' := .w2 (Vc H.L.n D)) (.w2 hk) (hmode.reopen trivial trivial rfl (fun vs e => by cases e; omega)) (by simp) (.inl (by simp only [phi]; omega))
  · exact idleS K ha hcm hwg hmode (by simp) hgo hdo hev (.w1 hg') (by omega)

set_option maxHeartbeats 1600000 in
theorem stepCs (K : PhOk H AW) (ha : gs[0]? = some a) (hcs : H.Cs AW tag j f0 d0 o0 a w) (hcm : Cm H old t0 j gs w t D O o0 d0 q) (hwg : WgAt H.ty H.L.Wg w st sm) (hmode : ConcN.Mode j D tag st sm)
    (hacq : tag = .ret → AcqO H.L.Wg old j t) (hrun : a.status = .running) :
    EndP H old t0 gs w t a ∨
    (∃ m₁ ops μ', runT H.P (crowd gs w sl) 0 = (.next m₁, ops) ∧ Lt2 μ' (phi H.L.n (Vc j D) tag + Ssum j D, f0 + 2 * Fsum j D + 2 * sumTo (old + 1) q) ∧ InvP H AW old t0 μ' m₁ (t ++ ops)) := by
  have hVj := Vc_le j D
  have hn := K.hn
  cases hcs with
  | skd hr h =>
    rcases h.cases with ⟨_, a', hgo, m₂, hk⟩ | ⟨m', a', w', es, o', rfl, hgo, hdo, hev, hg'⟩
    · exact .inr (bookS K ha hcm hgo (.refl H.L.Wg w) hwg bk_dis (.sa1 hr hk) (hmode.reopen trivial trivial rfl (by simp)) (by simp) (.inl (by simp only [phi]; omega)))
    · exact .inr (idleS K ha hcm hwg hmode (by simp) hgo hdo hev (.skd hr hg') (by omega))
  | sa1 hr h =>
    rename_i r
    rcases h.cases with ⟨_, hall⟩ | ⟨m', a', w', es, o', rfl, hgo, hdo, hev, hg'⟩
    · obtain ⟨ho, rfl, rfl, _⟩ := hmode.open_inv trivial
      obtain ⟨a', hgo, m₂, hk⟩ := hall (Vc (H.L.n - (r + 1)) D) (by omega) (by simpa [pend] using hwg)
      refine .inr (bookS K ha hcm hgo (aside_setCell w (stA H.L.Wg) _) (hwg.setSt _) bk_rw (.ske hr hk) ?_ (by simp) (.inl (by simp only [phi]; omega)))
      have e : (((Vc (H.L.n - (r + 1)) D : Nat) : Int) + 1) * KK = ((Vc (H.L.n - (r + 1)) D + pend (.sp r 3) : Nat) : Int) * KK := by simp [pend]
      rw [e]
      exact .opn trivial ho (by simp)
    · exact .inr (idleS K ha hcm hwg hmode (by simp) hgo hdo hev (.sa1 hr hg') (by omega))
  | ske hr h =>
    rcases h.cases with ⟨_, a', hgo, m₂, hk⟩ | ⟨m', a', w', es, o', rfl, hgo, hdo, hev, hg'⟩
    · exact .inr (bookS K ha hcm hgo (.refl H.L.Wg w) hwg bk_en (.sgo hr hk) (hmode.reopen trivial trivial rfl (by simp)) (by simp) (.inl (by simp only [phi]; omega)))
    · exact .inr (idleS K ha hcm hwg hmode (by simp) hgo hdo hev (.ske hr hg') (by omega))
  | sgo hr h =>
    rename_i r
    rcases h.cases with ⟨_, a', child, hsp, _, hwk0, hnext⟩ | ⟨m', a', w', es, o', rfl, hgo, hdo, hev, hg'⟩
    · obtain ⟨m₂, hwk⟩ := hwk0 hcm.pay ⟨_, _, hwg⟩ (hcm.init _ (Nat.le_refl _) (by omega))
      obtain ⟨ho, rfl, rfl, _⟩ := hmode.open_inv trivial
      have hrun' := runT_crowd_spawn (P := H.P) (sl := sl) (i := 0) ha (by simpa using hsp)
      rw [hcm.size] at hrun'
      have hcm' := hcm.spawn K.hL K.hX K.hF (a' := a') (x := { g := 0, fn := a.frame.fn, pos := a.frame.place, act := .go (old + 1 + (H.L.n - (r + 1))) }) (y := { g := old + 1 + (H.L.n - (r + 1)), fn := child.frame.fn, pos := a.frame.place, act := .start }) ⟨rfl, rfl⟩ ⟨rfl, rfl⟩ hwk
      have eV : Vc (H.L.n - (r + 1) + 1) (upd D (H.L.n - (r + 1)) ⟨7, m₂, 0⟩) = Vc (H.L.n - (r + 1)) D + 1 := by
        simp only [Vc, sumTo, upd_same]
        rw [sumTo_upd_out D _ cnt (Nat.le_refl _)]; rfl
      have eS : Ssum (H.L.n - (r + 1) + 1) (upd D (H.L.n - (r + 1)) ⟨7, m₂, 0⟩) = Ssum (H.L.n - (r + 1)) D + 7 := by
        simp only [Ssum, sumTo, upd_same]
        rw [sumTo_upd_out D _ WD.stage (Nat.le_refl _)]
      have ho' : OpenSt (H.L.n - (r + 1) + 1) (upd D (H.L.n - (r + 1)) ⟨7, m₂, 0⟩) := fun i hi => by
        by_cases e : i = H.L.n - (r + 1)
        · subst e; rw [upd_same]; simp
        · rw [upd_ne D _ e]; exact ho i (by omega)
      have ha' : ((gs.setIfInBounds 0 a').push child)[0]? = some a' := by
        rw [Array.getElem?_push_lt (by simp [hcm.size]; omega), ← Array.getElem?_eq_getElem]
        have : 0 < gs.size := by rw [hcm.size]; omega
        simp [this]
      have ej : H.L.n - (r + 1) + 1 = H.L.n - r := by omega
      rw [ej] at hcm' eV eS ho'
      have est : ∀ tag', pend tag' = 0 → ((Vc (H.L.n - (r + 1)) D + pend (.sp r 2) : Nat) : Int) * KK = ((Vc (H.L.n - r) (upd D (H.L.n - (r + 1)) ⟨7, m₂, 0⟩) + pend tag' : Nat) : Int) * KK := fun tag' hp => by rw [eV, hp]; simp [pend]
      cases r with
      | zero =>
        obtain ⟨m₃, hk⟩ := hnext
        simp only [Nat.sub_zero] at hcm' eV eS ho' est
        refine .inr ⟨_, _, (phi H.L.n (Vc H.L.n (upd D (H.L.n - (0 + 1)) ⟨7, m₂, 0⟩)) .kd + Ssum H.L.n (upd D (H.L.n - (0 + 1)) ⟨7, m₂, 0⟩), m₃ + 2 * Fsum H.L.n (upd D (H.L.n - (0 + 1)) ⟨7, m₂, 0⟩) + 2 * sumTo (old + 1) q), hrun', Prod.Lex.left _ _ (by simp only [phi]; omega),
          _, w, sl, H.L.n, _, _, [], q, .kd, m₃, 0, a', _, _, rfl, ha', .kd hk, hcm', hwg, ?_, by simp, rfl⟩
        rw [est .kd rfl]
        exact .opn trivial ho' (by simp)
      | succ r' =>
        obtain ⟨m₃, hk⟩ := hnext
        refine .inr ⟨_, _, (phi H.L.n (Vc (H.L.n - (r' + 1)) (upd D (H.L.n - (r' + 1 + 1)) ⟨7, m₂, 0⟩)) (.sp r' 5) + Ssum (H.L.n - (r' + 1)) (upd D (H.L.n - (r' + 1 + 1)) ⟨7, m₂, 0⟩), m₃ + 2 * Fsum (H.L.n - (r' + 1)) (upd D (H.L.n - (r' + 1 + 1)) ⟨7, m₂, 0⟩) + 2 * sumTo (old + 1) q), hrun', Prod.Lex.left _ _ (by simp only [phi]; omega),
          _, w, sl, H.L.n - (r' + 1), _, _, [], q, .sp r' 5, m₃, 0, a', _, _, rfl, ha', .skd (by omega) hk, hcm', hwg, ?_, by simp, rfl⟩
        rw [est (.sp r' 5) rfl]
        exact .opn trivial ho' (by simp)
    · exact .inr (idleS K ha hcm hwg hmode (by simp) hgo hdo hev (.sgo hr hg') (by omega))
  | kd h =>
    rcases h.cases with ⟨_, a', hgo, m₂, hk⟩ | ⟨m', a', w', es, o', rfl, hgo, hdo, hev, hg'⟩
    · exact .inr (bookS K ha hcm hgo (.refl H.L.Wg w) hwg bk_dis (.anch hk) (hmode.reopen trivial trivial rfl (by simp)) (by simp) (.inl (by simp only [phi]; omega)))
    · exact .inr (idleS K ha hcm hwg hmode (by simp) hgo hdo hev (.kd hg') (by omega))
  | anch h =>
    rcases h.cases with hstop | ⟨m', a', w', es, o', rfl, hgo, hdo, hev, hg'⟩
    · obtain ⟨m₂, hk⟩ := K.hAn o0 a w hstop
      obtain ⟨m₁, ops, μ', h1, h2, h3⟩ := loadS (sl := sl) K ha hcm hwg (hmode.reopen trivial trivial rfl (by simp)) hk
      exact .inr ⟨m₁, ops, μ', h1, lt2_trans h2 (Prod.Lex.left _ _ (by simp only [phi]; omega)), h3⟩
    · exact .inr (idleS K ha hcm hwg hmode (by simp) hgo hdo hev (.anch hg') (by omega))
  | w1 h => exact .inr (loadS K ha hcm hwg hmode h)
  | w2 h =>
    rename_i vs
    rcases h.cases with ⟨_, hall⟩ | ⟨m', a', w', es, o', rfl, hgo, hdo, hev, hg'⟩
    · obtain ⟨ho, rfl, rfl, hw2⟩ := hmode.open_inv trivial
      obtain ⟨hle, h1⟩ := hw2 vs rfl
      obtain ⟨hhit, hmiss⟩ := hall (Vc H.L.n D) (by omega) (by simpa [pend] using hwg)
      by_cases e : Vc H.L.n D = vs
      · obtain ⟨a', hgo, m₂, hk⟩ := hhit e
        exact .inr (bookS K ha hcm hgo (aside_setCell w (stA H.L.Wg) _) (hwg.setSt _) bk_rw (.w3 hk) (.reg trivial ho (by omega)) (by simp) (.inl (by simp only [phi]; omega)))
      · obtain ⟨a', hgo, m₂, hk⟩ := hmiss e
        exact .inr (bookS K ha hcm hgo (.refl H.L.Wg w) hwg bk_rd (.anch hk) (hmode.reopen trivial trivial rfl (by simp)) (by simp) (.inl (by simp only [phi]; omega)))
    · exact .inr (idleS K ha hcm hwg hmode (by simp) hgo hdo hev (.w2 hg') (by omega))
  | w3 h =>
    rcases h.casesA with hstop | ⟨m', a', w', es, o', rfl, hgo, hdo, hev, hg'⟩
    · obtain ⟨_, hoff, hblk, htake⟩ := hstop w (.refl w)
      cases hmode with
      | opn h1 _ _ => exact h1.elim
      | reg h1 h2 h3 => exact .inr (bookS K ha hcm (hblk ⟨_, hwg⟩) (.refl H.L.Wg w) hwg (by simp) (.blk hstop) (.reg trivial h2 h3) (by simp) (.inr ⟨rfl, by omega⟩))
      | last Lx h1 h2 h3 h4 => exact .inr (bookS K ha hcm (hblk ⟨_, hwg⟩) (.refl H.L.Wg w) hwg (by simp) (.blk hstop) (.last Lx trivial h2 h3 h4) (by simp) (.inr ⟨rfl, by omega⟩))
      | sema h2 =>
        obtain ⟨a', hgo, m₂, hk⟩ := htake hwg
        exact .inr (bookS K ha hcm hgo (aside_setCell w (smA H.L.Wg) _) (hwg.setSm 0) bk_sem (.w4 hk) (.fin trivial h2) (by simp) (.inl (by simp only [phi]; omega)))
      | fin h1 _ => exact h1.elim
    · exact .inr (idleS K ha hcm hwg hmode (by simp) hgo hdo hev (.w3 hg') (by omega))
  | blk h => simp at hrun
  | w4 h =>
    rcases h.cases with ⟨_, hx⟩ | ⟨m', a', w', es, o', rfl, hgo, hdo, hev, hg'⟩
    · obtain ⟨hq, rfl, rfl⟩ := hmode.fin_inv trivial
      obtain ⟨a', hgo, m₂, hk⟩ := hx hwg
      exact .inr (bookS K ha hcm hgo (.refl H.L.Wg w) hwg bk_rd (.ke hk) (.fin trivial hq) (by simp) (.inl (by simp only [phi]; omega)))
    · exact .inr (idleS K ha hcm hwg hmode (by simp) hgo hdo hev (.w4 hg') (by omega))
  | ke h =>
    rcases h.cases with ⟨_, a', hgo, m₂, hk⟩ | ⟨m', a', w', es, o', rfl, hgo, hdo, hev, hg'⟩
    · obtain ⟨hq, rfl, rfl⟩ := hmode.fin_inv trivial
      exact .inr (bookS K ha hcm hgo (.refl H.L.Wg w) hwg bk_en (.acq hk) (.fin trivial hq) (by simp) (.inl (by simp only [phi]; omega)))
    · exact .inr (idleS K ha hcm hwg hmode (by simp) hgo hdo hev (.ke hg') (by omega))
  | acq h =>
    rcases h.cases with ⟨_, a', hgo, m₂, hk⟩ | ⟨m', a', w', es, o', rfl, hgo, hdo, hev, hg'⟩
    · obtain ⟨hq, rfl, rfl⟩ := hmode.fin_inv trivial
      have hWs : H.L.Wg < w.heap.size := Nat.lt_of_lt_of_le K.hL.hW hcm.N
      have h1 : ∀ e ∈ #[ConcR.mk (.acquire (stA H.L.Wg))], e = ConcR.mk (.acquire (stA H.L.Wg)) := fun e he => by rwa [Array.mem_singleton] at he
      have hnt : ∀ x, (MemAct.ofEvent (ConcR.mk (.acquire (stA H.L.Wg)))).touch? ≠ some x := fun x hx => by simp [ConcR.mk, MemAct.ofEvent, MemAct.touch?] at hx
      refine .inr (callerM K ha hcm hgo (Nat.le_refl _) hcm.ls (fun i _ => RO.refl w) (fun op hop => ?_) (fun e he => by rw [h1 e he]; simp [ConcR.mk]) (fun e he x hx => by rw [h1 e he] at hx; exact absurd hx (hnt x)) (fun e he x hx => by rw [h1 e he] at hx; exact absurd hx (hnt x)) hcm.pay (fun _ _ => rfl) (.ret hk) hwg (.fin trivial hq) (fun _ => ?_) (.inl (by simp only [phi]; omega)))
      · obtain ⟨e, he, rfl⟩ := of_mem hop
        rw [h1 e he]
        exact ⟨rfl, fun x hx => absurd hx (hnt x)⟩
      · have e1 : MemOp.ofEvents 0 a.frame.fn a.frame.place #[ConcR.mk (.acquire (stA H.L.Wg))] = #[{ g := 0, fn := a.frame.fn, pos := a.frame.place, act := .mark (.acquire (stA H.L.Wg)) }] := by rw [ofEvents_eq]; simp [ofEvent_mk]
        have hy : (t ++ #[({ g := 0, fn := a.frame.fn, pos := a.frame.place, act := .mark (.acquire (stA H.L.Wg)) } : MemOp)])[t.size]? = some { g := 0, fn := a.frame.fn, pos := a.frame.place, act := .mark (.acquire (stA H.L.Wg)) } := by simp
        refine ⟨t.size, by rw [e1, act?_of hy], by rw [e1]; simp [Trace.g?], by rw [e1]; exact ⟨0, by simp [Trace.g?], by rw [deaf_old (Nat.le_refl _)]; exact hcm.deaf0⟩, fun i hi => ?_⟩
        obtain ⟨r, hr⟩ := hcm.rel i hi (by rw [hq i hi]; omega)
        exact ⟨r, hr.appOther g_of_ofEvents (by omega), lt_of_act? hr.act⟩
    · exact .inr (idleS K ha hcm hwg hmode (by simp) hgo hdo hev (.acq hg') (by omega))
  | ret h =>
    rcases h.cases with ⟨hr, hx⟩ | ⟨m', a', w', es, o', rfl, hgo, hdo, hev, hg'⟩
    · obtain ⟨hq, rfl, rfl⟩ := hmode.fin_inv trivial
      exact .inl ⟨ha, hr, hx, ⟨D, O, o0, _, q, hcm, hq, rfl⟩, hacq rfl, hwg⟩
    · exact .inr (idleS K ha hcm hwg hmode hacq hgo hdo hev (.ret hg') (by omega))

theorem someS (K : PhOk H AW) (ha : gs[0]? = some a) (hcs : H.Cs AW tag j f0 d0 o0 a w) (hcm : Cm H old t0 j gs w t D O o0 d0 q) (hmode : ConcN.Mode j D tag st sm) : ∃ (i : Nat) (g : Goroutine), gs[i]? = some g ∧ g.status = .running := by
  rcases hcs.status K.hAr with ⟨hs, _⟩ | ⟨_, rfl⟩
  · exact ⟨0, a, ha, hs⟩
  · cases hmode with
    | opn h1 _ _ => exact h1.elim
    | reg _ _ h3 =>
      obtain ⟨i, hi, h5⟩ := exists_counted h3
      obtain ⟨g, hg, hs⟩ := hcm.wk i hi
      exact ⟨old + 1 + i, g, hg, hs.running_of (by omega)⟩
    | last Lx _ h2 h3 _ =>
      obtain ⟨g, hg, hs⟩ := hcm.wk Lx h2
      exact ⟨old + 1 + Lx, g, hg, hs.running_of (by omega)⟩
    | fin h1 _ => exact h1.elim

theorem allSt (K : PhOk H AW) (ha : gs[0]? = some a) (hcs : H.Cs AW tag j f0 d0 o0 a w) (hcm : Cm H old t0 j gs w t D O o0 d0 q) : ∀ g ∈ gs, awake g := by
  intro g hg tm
  obtain ⟨i, hi⟩ := Array.mem_iff_getElem?.1 hg
  rcases Nat.eq_zero_or_pos i with rfl | hpos
  · rw [ha] at hi; cases hi
    rcases hcs.status K.hAr with ⟨hs, _⟩ | ⟨hs, _⟩ <;> rw [hs] <;> simp
  · rcases Nat.lt_or_ge old i with ho | ho
    · obtain ⟨k, rfl⟩ : ∃ k, i = old + 1 + k := ⟨i - (old + 1), by omega⟩
      have hlt : k < j := by have := (Array.getElem?_eq_some_iff.1 hi).1; rw [hcm.size] at this; omega
      obtain ⟨g', hg', hs⟩ := hcm.wk k hlt
      rw [hi] at hg'; cases hg'
      rcases hs.status with h | h <;> rw [h] <;> simp
    · have := hcm.elder i g hpos ho hi
      rcases this.status with h | h <;> rw [h] <;> simp
end

section
variable {H : Ph} {AW : List Nat → Goroutine → World → Prop} {old : Nat} {t0 : Trace}

/-- ████ THE PHASE RUNS TO ITS END, ON EVERY TAPE. ████ -/
theorem phase_runs (K : PhOk H AW) : ∀ (μ : Nat × Nat) (m : Machine) (t : Trace), InvP H AW old t0 μ m t →
    ∃ (N : Nat) (gs : Array Goroutine) (w : World) (sl : Option (Nat × Nat)) (t' : Trace) (a : Goroutine), runNT H.P N m t = (.next (crowd gs w sl), t') ∧ EndP H old t0 gs w t' a := by
  have wf := (Prod.lex Nat.lt_wfRel Nat.lt_wfRel).wf
  intro μ
  induction wf.apply μ with
  | intro μ _ ih =>
    intro m t hI
    obtain ⟨gs, w, sl, j, D, O, o0, q, tag, f0, d0, a, st, sm, rfl, ha, hcs, hcm, hwg, hmode, hacq, rfl⟩ := hI
    obtain ⟨i, g, d, sl', hg, hrun, hstep⟩ := crowd_pick (P := H.P) (w := w) (sl := sl) (allSt K ha hcs hcm) (someS K ha hcs hcm hmode)
    have hcs' := hcs.rely (RO.at w d)
    have hcm' := hcm.at K.hF d
    have hwg' : WgAt H.ty H.L.Wg (w.at d) st sm := hwg
    have fin : (∃ m₁ ops μ', runT H.P (crowd gs (w.at d) sl') i = (.next m₁, ops) ∧ Lt2 μ' (phi H.L.n (Vc j D) tag + Ssum j D, f0 + 2 * Fsum j D + 2 * sumTo (old + 1) q) ∧ InvP H AW old t0 μ' m₁ (t ++ ops)) →
        ∃ (N : Nat) (gs' : Array Goroutine) (w' : World) (sl'' : Option (Nat × Nat)) (t' : Trace) (a' : Goroutine), runNT H.P N (crowd gs w sl) t = (.next (crowd gs' w' sl''), t') ∧ EndP H old t0 gs' w' t' a' := by
      rintro ⟨m₁, ops, μ', h1, h2, h3⟩
      obtain ⟨N, gs', w', sl'', t', a', r1, r2⟩ := ih μ' h2 m₁ (t ++ ops) h3
      exact ⟨N + 1, gs', w', sl'', t', a', by simp only [runNT, hstep, h1]; exact r1, r2⟩
    rcases Nat.eq_zero_or_pos i with rfl | hpos
    · rw [ha] at hg; cases hg
      rcases stepCs (sl := sl') K ha hcs' hcm' hwg' hmode hacq hrun with he | h
      · have he' : EndP H old t0 gs ((w.at d).at w.drawn) t a := he.at K w.drawn
        exact ⟨0, gs, w, sl, t, a, rfl, he'⟩
      · exact fin h
    · rcases Nat.lt_or_ge old i with ho | ho
      · obtain ⟨k, rfl⟩ : ∃ k, i = old + 1 + k := ⟨i - (old + 1), by omega⟩
        have hlt : k < j := by have := (Array.getElem?_eq_some_iff.1 hg).1; rw [hcm.size] at this; omega
        exact fin (stepWk K ha hcs' hcm' hwg' hmode hacq hlt hg hrun)
      · exact fin (elderM K ha hcs' hcm' hwg' hmode hacq hpos ho hg hrun)
end
end

section
open Go.Conc Go.ConcN
open Go.ConcR (KK wgBlock WgAt stA smA rd wr Payload DC0 Bk g_of_ofEvents ofEvent_mk)

/-- What is held between two phases. -/
structure Fr (P : Program) (X : Nat → Prop) (gs : Array Goroutine) (w : World) (t : Trace) (q : Nat → Nat) : Prop where
  lv : Leavers P t gs q
  past : ∃ B, w.heap.size ≤ B ∧ Past (ShX X) B t
  mem : ∀ i a, touchAt t i = some a → a.loc.isMemory = true
  quiet : Quiet (ShX X) t
  seen : SeenB w.heap.size t
  gsb : ∀ (i : Nat) (op : MemOp), t[i]? = some op → op.g < gs.size

theorem good_touch {X : Nat → Prop} {n : Nat} {e : Event} (h : GoodE X n e) : ∀ x, (MemAct.ofEvent e).touch? = some x → x.loc.isMemory = true ∧ x.loc.low n ∧ ¬ ShX X x.loc := by
  obtain ⟨loc, wr, sy⟩ := e
  intro x hx
  rcases h with ⟨a, h1, h2, h3, _⟩ | ⟨r, h1, h2⟩ | h | ⟨f, h⟩
  · simp only at h1
    subst h1
    have : x.loc = .cell a := by cases wr <;> cases sy <;> simp [MemAct.ofEvent, MemAct.touch?] at hx <;> rw [← hx]
    rw [this]
    exact ⟨rfl, h3, fun ⟨b, hb, hx'⟩ => by cases hb; exact h2 hx'⟩
  · simp only at h1
    subst h1
    have : x.loc = .obj r := by cases wr <;> cases sy <;> simp [MemAct.ofEvent, MemAct.touch?] at hx <;> rw [← hx]
    rw [this]
    exact ⟨rfl, h2, fun ⟨b, hb, hx'⟩ => by cases hb⟩
  · simp only at h
    subst h
    rw [ofEvent_mark] at hx; simp [MemAct.touch?] at hx
  · simp only at h
    subst h
    rw [ofEvent_mark] at hx; simp [MemAct.touch?] at hx

section
variable {P : Program} {X X' : Nat → Prop} {gs : Array Goroutine} {w w' : World} {t : Trace} {q : Nat → Nat}

theorem Fr.wide (h : Fr P X gs w t q) (h1 : ∀ b, X b → X' b) (h2 : ∀ b, X' b → X b ∨ w.heap.size ≤ b) : Fr P X' gs w t q := by
  obtain ⟨B, hB, hP⟩ := h.past
  have key : ∀ i a, touchAt t i = some a → ShX X' a.loc → ShX X a.loc := by
    rintro i a ha ⟨ad, e, hx⟩
    rcases h2 _ hx with hx | hx
    · exact ⟨ad, e, hx⟩
    · have := h.seen i a ha
      rw [e] at this
      have : ad.block < w.heap.size := this
      omega
  refine ⟨h.lv, ⟨B, hB, hP.clean, fun i a ha hm => (hP.known i a ha hm).imp id fun ⟨⟨ad, e, hx⟩, hk⟩ => ⟨⟨ad, e, h1 _ hx⟩, hk⟩, hP.over, hP.hears, hP.seen⟩, h.mem, fun i op x hi hx hs => h.quiet i op x hi hx (key i x (by rw [touchAt_of hi]; exact hx) hs), h.seen, h.gsb⟩

theorem Fr.own (h : Fr P X gs w t q) (h0 : 0 < gs.size) {g a' : Goroutine} {es : Array Event} {fn : FuncId} {pos : String} (hes : ∀ e ∈ es, GoodE X w'.heap.size e) (hsz : w.heap.size ≤ w'.heap.size) :
    Fr P X ((gs.map (woken P g a' w')).setIfInBounds 0 a') w' (t ++ MemOp.ofEvents 0 fn pos es) q := by
  obtain ⟨B, hB, hP⟩ := h.past
  have ev : ∀ op ∈ MemOp.ofEvents 0 fn pos es, op.g = 0 ∧ ∀ x, op.act.touch? = some x → x.loc.isMemory = true ∧ x.loc.low w'.heap.size ∧ ¬ ShX X x.loc := fun op hop => by
    obtain ⟨e, he, rfl⟩ := of_mem hop
    exact ⟨rfl, good_touch (hes e he)⟩
  refine ⟨leavers_own h.lv h0, ⟨max B w'.heap.size, Nat.le_max_right _ _, (hP.mono (Nat.le_max_left B w'.heap.size)).own fun e he => ?_⟩, grow_mem h.mem fun op hop x hx => ((ev op hop).2 x hx).1,
    h.quiet.app fun op hop x hx hs => absurd hs ((ev op hop).2 x hx).2.2, (h.seen.mono hsz).app fun op hop x hx => ((ev op hop).2 x hx).2.1, fun i op hi => ?_⟩
  · obtain ⟨a1, a2, a3, a4⟩ := good_evL (hes e he)
    exact ⟨a1, a2, a3, MemAct.low_mono (Nat.le_max_right _ _) a4⟩
  · rcases getElem?_append_cases hi with ⟨_, hi'⟩ | ⟨_, hiu⟩
    · simpa using h.gsb i op hi'
    · rw [(ev op hiu).1]; simpa using h0

theorem Fr.slip (h : Fr P X gs w t q) {i k : Nat} (hi0 : 0 < i) (hlt : i < gs.size) {g g' : Goroutine} {w₁ : World} {es : Array Event} {fn : FuncId} {pos : String} (hm : ∀ e ∈ es, e.mute = true)
    (hq' : QuitsD P k (deafBehind (Deaf t i) es) g') : Fr P X ((gs.map (woken P g g' w₁)).setIfInBounds i g') w (t ++ MemOp.ofEvents i fn pos es) (upd q i k) := by
  obtain ⟨B, hB, hP⟩ := h.past
  have ev : ∀ op ∈ MemOp.ofEvents i fn pos es, op.g = i ∧ op.act.touch? = none := fun op hop => by
    obtain ⟨e, he, rfl⟩ := of_mem hop
    exact ⟨rfl, touch_mute (hm e he)⟩
  refine ⟨leavers_slip h.lv hlt hq', ⟨B, hB, hP.mute (by omega) hm⟩, grow_mem h.mem fun op hop x hx => ?_, h.quiet.app fun op hop x hx _ => ?_, h.seen.app (fun op hop x hx => (by rw [(ev op hop).2] at hx; cases hx)), fun j op hj => ?_⟩
  · rw [(ev op hop).2] at hx; cases hx
  · rw [(ev op hop).2] at hx; cases hx
  · rcases getElem?_append_cases hj with ⟨_, hj'⟩ | ⟨_, hju⟩
    · simpa using h.gsb j op hj'
    · rw [(ev op hju).1]; simpa using hlt

theorem Fr.at (h : Fr P X gs w t q) (d : Nat) : Fr P X gs (w.at d) t q := ⟨h.lv, h.past, h.mem, h.quiet, h.seen, h.gsb⟩

/-- Goroutine 0 comes to its stop beside leavers. -/
theorem alw_fr {Stop : Goroutine → World → Prop} {a : Goroutine} {w : World} (h : Alw P X Stop a w) : ∀ (gs : Array Goroutine) (sl : Option (Nat × Nat)) (t : Trace) (q : Nat → Nat), gs[0]? = some a → Fr P X gs w t q →
    ∃ (N : Nat) (gs' : Array Goroutine) (a' : Goroutine) (w' : World) (sl' : Option (Nat × Nat)) (t' : Trace) (q' : Nat → Nat),
      runNT P N (crowd gs w sl) t = (.next (crowd gs' w' sl'), t') ∧ gs'.size = gs.size ∧ gs'[0]? = some a' ∧ Stop a' w' ∧ Fr P X gs' w' t' q' := by
  induction h with
  | @stop a w hs => exact fun gs sl t q h0 hF => ⟨0, gs, a, w, sl, t, q, rfl, rfl, h0, hs w.drawn, hF⟩
  | @step a w hrun hst _ ih =>
    have inner : ∀ (M : Nat) (gs : Array Goroutine) (d0 : Nat) (sl : Option (Nat × Nat)) (t : Trace) (q : Nat → Nat), sumTo gs.size q < M → gs[0]? = some a → Fr P X gs w t q →
        ∃ (N : Nat) (gs' : Array Goroutine) (a' : Goroutine) (w' : World) (sl' : Option (Nat × Nat)) (t' : Trace) (q' : Nat → Nat),
          runNT P N (crowd gs (w.at d0) sl) t = (.next (crowd gs' w' sl'), t') ∧ gs'.size = gs.size ∧ gs'[0]? = some a' ∧ Stop a' w' ∧ Fr P X gs' w' t' q' := by
      intro M
      induction M with
      | zero => intro gs d0 sl t q hM; omega
      | succ M ihM =>
        intro gs d0 sl t q hM h0 hF
        have hlt0 : 0 < gs.size := (Array.getElem?_eq_some_iff.1 h0).1
        obtain ⟨i, g, d, sl', hi, hg, hpk⟩ := crowd_pick (P := P) (w := w.at d0) (sl := sl) (leavers_awake hF.lv h0 hrun) ⟨0, a, h0, hrun⟩
        rcases Nat.eq_zero_or_pos i with rfl | hpos
        · obtain rfl : g = a := by rw [h0] at hi; exact (Option.some.inj hi).symm
          obtain ⟨g', w', es, hgo, hes, hsz⟩ := hst d
          have hrunT := runT_crowd_go (P := P) (sl := sl') (i := 0) hi (show stepG P (0 == 0) g ((w.at d0).at d) = _ from hgo)
          have hszg : ((gs.map (woken P g g' w')).setIfInBounds 0 g').size = gs.size := by simp
          obtain ⟨N, gs', a'', w'', sl'', t', q', hr, hs', h0', hS, hF'⟩ := ih d g' w' es hgo ((gs.map (woken P g g' w')).setIfInBounds 0 g') sl' (t ++ MemOp.ofEvents 0 g.frame.fn g.frame.place es) q (by simp [hlt0])
            (hF.own hlt0 hes hsz)
          exact ⟨N + 1, gs', a'', w'', sl'', t', q', by simp only [runNT, hpk, hrunT]; exact hr, hs'.trans hszg, h0', hS, hF'⟩
        · have hq := hF.lv.old i g hpos hi
          have hi0 : (i == 0) = false := by simp; omega
          have hlt : i < gs.size := (Array.getElem?_eq_some_iff.1 hi).1
          cases hqi : q i with
          | zero => rw [hqi] at hq; rw [hq.1] at hg; cases hg
          | succ k =>
            rw [hqi] at hq
            rcases hq with ⟨hf, _⟩ | ⟨_, g', es, hm, hstp, hq'⟩
            · rw [hf] at hg; cases hg
            have hrunT := runT_crowd_go (P := P) (sl := sl') (i := i) hi (by rw [hi0]; exact hstp ((w.at d0).at d))
            have hszg : ((gs.map (woken P g g' ((w.at d0).at d))).setIfInBounds i g').size = gs.size := by simp
            have hsum : sumTo gs.size (upd q i k) + (k + 1) = sumTo gs.size q + k := by
              have := sumTo_upd q k id hlt
              simpa [hqi] using this
            obtain ⟨N, gs', a'', w'', sl'', t', q', hr, hs', h0', hS, hF'⟩ := ihM ((gs.map (woken P g g' ((w.at d0).at d))).setIfInBounds i g') d sl' (t ++ MemOp.ofEvents i g.frame.fn g.frame.place es) (upd q i k) (by rw [hszg]; omega)
              (by
                have hne : i ≠ 0 := by omega
                rw [Array.getElem?_setIfInBounds_ne hne, Array.getElem?_map, h0]
                simp [woken_run hrun])
              (hF.slip hpos hlt hm hq')
            exact ⟨N + 1, gs', a'', w'', sl'', t', q', by simp only [runNT, hpk, hrunT]; exact hr, hs'.trans hszg, h0', hS, hF'⟩
    exact fun gs sl t q h0 hF => inner _ gs w.drawn sl t q (Nat.lt_succ_self _) h0 hF
end

/-- The first frame. -/
theorem fr_one (P : Program) (a : Goroutine) (w : World) : Fr P (fun _ => False) #[a] w #[] (fun _ => 0) :=
  ⟨leavers_one P a, ⟨w.heap.size, Nat.le_refl _, by
    have h := past_nil.mono (Nat.zero_le w.heap.size)
    exact ⟨h.clean, fun i a ha hm => by simp [touchAt, Trace.act?] at ha, h.over, h.hears, h.seen⟩⟩, fun i a ha => by simp [touchAt, Trace.act?] at ha, fun i op x hi => by simp at hi, fun i a ha => by simp [touchAt, Trace.act?] at ha, fun i op hi => by simp at hi⟩
end

section
open Go.Conc Go.ConcN
open Go.ConcR (KK wgBlock WgAt stA smA rd wr Payload DC0 Bk g_of_ofEvents ofEvent_mk)

theorem finite_low (t : Trace) : ∃ B, ∀ op ∈ t, op.act.low B := by
  have key : ∀ l : List MemOp, ∃ B, ∀ op ∈ l, op.act.low B := by
    intro l
    induction l with
    | nil => exact ⟨0, by simp⟩
    | cons x l ih =>
      obtain ⟨B, hB⟩ := ih
      have one : ∃ B', x.act.low B' := by
        cases hx : x.act with
        | access e =>
          obtain ⟨loc, wr, sy⟩ := e
          cases loc with
          | cell a => exact ⟨a.block + 1, Nat.lt_succ_self _⟩
          | obj r => exact ⟨r + 1, Nat.lt_succ_self _⟩
          | _ => exact ⟨0, trivial⟩
        | mark m => cases m <;> first | exact ⟨0, trivial⟩ | exact ⟨_, Nat.lt_succ_self _⟩
        | _ => first | exact ⟨0, trivial⟩ | exact ⟨_, Nat.lt_succ_self _⟩
      obtain ⟨B', hB'⟩ := one
      exact ⟨max B B', fun op hop => by
        rcases List.mem_cons.1 hop with rfl | hop
        · exact MemAct.low_mono (Nat.le_max_right _ _) hB'
        · exact MemAct.low_mono (Nat.le_max_left _ _) (hB op hop)⟩
  obtain ⟨B, hB⟩ := key t.toList
  exact ⟨B, fun op hop => hB op (by simpa using hop)⟩

variable [Payload]

section
variable {H : Ph} {AW : List Nat → Goroutine → World → Prop} {old : Nat} {t0 : Trace} {gs gs0 : Array Goroutine} {w w0 : World} {sl : Option (Nat × Nat)} {t : Trace} {q q0 : Nat → Nat} {a : Goroutine}

theorem EndP.fr (K : PhOk H AW) (hW : H.X H.L.Wg) (hF : Fr H.P H.X gs0 w0 t0 q0) (hgs : gs0.size = old + 1) (h : EndP H old t0 gs w t a) : ∃ q', Fr H.P H.X gs w t q' := by
  obtain ⟨D, O, o0, d0, q, hcm, hq, _⟩ := h.cm
  obtain ⟨u, hu1, hu2⟩ := hcm.base
  obtain ⟨x, hx1, hx2, hx3, hx4⟩ := h.acq
  obtain ⟨B0, _, hP⟩ := hF.past
  have shX : ∀ l, ShP H.L H.X l → ShX H.X l := fun l ⟨ad, e, hx⟩ => ⟨ad, e, hx.elim id fun e => by rw [e]; exact hW⟩
  have wk : ∀ i i', i' < H.L.n → t.g? i = some (old + 1 + i') → t.counts i → HappensBefore t i x := by
    intro i i' hi' hg hc
    obtain ⟨r, hr, hrx⟩ := hx4 i' hi'
    have hr0 : t0.size ≤ r := by
      rcases Nat.lt_or_ge r t0.size with hlt | hge
      · obtain ⟨op, ho, hog⟩ := Option.map_eq_some_iff.1 hr.g
        rw [hu1, getElem?_append_old hlt] at ho
        have := hF.gsb r op ho
        omega
      · exact hge
    have edge : HappensBefore t r x := .single (.inr ⟨.marked hrx (.inr hr.act) hx1 (fun k hk _ => hcm.norel k (by omega)), hr.heard, hx3⟩)
    have hle : i ≤ r := Nat.le_of_not_lt fun hlt => hr.after i hlt hg hc
    rcases Nat.lt_or_ge i r with hlt | hge
    · exact .trans (.single (.inl ⟨hlt, old + 1 + i', hg, hr.g⟩)) edge
    · obtain rfl : i = r := by omega
      exact edge
  have split : ∀ i op, t[i]? = some op → op.g ≠ 0 → op.act.touch? ≠ none → (i < t0.size ∧ t0[i]? = some op) ∨ ∃ i', i' < H.L.n ∧ op.g = old + 1 + i' := by
    intro i op hi hne htn
    have hi0 := hi
    rw [hu1] at hi
    rcases getElem?_append_cases hi with ⟨hlt, hi'⟩ | ⟨_, hiu⟩
    · exact .inl ⟨hlt, hi'⟩
    · rcases hu2 op hiu with e | e | e
      · exact absurd e hne
      · have := hcm.ct.gs i op hi0
        exact .inr ⟨op.g - old - 1, by omega, by omega⟩
      · exact absurd e htn
  obtain ⟨zx, hzx, hzg⟩ := Option.map_eq_some_iff.1 hx2
  obtain ⟨B, hB⟩ := finite_low t
  refine ⟨fun i => if i ≤ old then q i else (D (i - old - 1)).fuel, ⟨fun i g hi hg => ?_, hcm.above⟩, ⟨max B w.heap.size, Nat.le_max_right _ _, hcm.ct.nr, fun i a' ha hm => ?_, fun i g hg hne hc => ?_, hcm.deaf0, fun op hop => MemAct.low_mono (Nat.le_max_left _ _) (hB op hop)⟩,
    hcm.mem, fun i op y hi hy hs => hcm.ct.quiet i op y hi hy ?_, hcm.seen, fun i op hi => ?_⟩
  · by_cases ho : i ≤ old
    · simp only [if_pos ho]
      exact hcm.elder i g hi ho hg
    · simp only [if_neg ho]
      have hlt : i - old - 1 < H.L.n := by have := (Array.getElem?_eq_some_iff.1 hg).1; rw [hcm.size] at this; omega
      have ei : i = old + 1 + (i - old - 1) := by omega
      obtain ⟨g', hg', hs⟩ := hcm.wk _ hlt
      rw [← ei, hg] at hg'
      cases hg'
      have := hs.quits (hq _ hlt)
      rwa [← hcm.deafW _ hlt, ← ei] at this
  · obtain ⟨op, hop, hoa⟩ := touch_of ha
    by_cases hg0 : op.g = 0
    · have := knows_own hop
      rw [hg0] at this
      exact .inl this
    · rcases split i op hop hg0 (by rw [hoa]; simp) with ⟨hlt, hi'⟩ | ⟨i', hi', e⟩
      · rw [hu1]
        exact (hP.known i a' (by rw [touchAt_of hi']; exact hoa) hm).imp (·.app u) id
      · by_cases hc : t.counts i
        · exact .inl ⟨x, zx, hzx, hzg, .inr (wk i i' hi' (by simp [Trace.g?, hop, e]) hc)⟩
        · have hk : a'.kind = .atomic := Classical.byContradiction fun hk => hc ⟨a', ha, hm, .inl hk⟩
          rcases hcm.atm i a' ha hk with hs | hs
          · exact .inr ⟨shX _ hs, hk⟩
          · exact .inl hs
  · obtain ⟨op, hop, hog⟩ := Option.map_eq_some_iff.1 hg
    obtain ⟨y, hy, hy2⟩ := id hc
    have hoy : op.act.touch? = some y := by rw [← touchAt_of hop]; exact hy
    rcases split i op hop (by rw [hog]; exact hne) (by rw [hoy]; simp) with ⟨hlt, hi'⟩ | ⟨i', hi', e⟩
    · rw [hu1] at hc hg ⊢
      obtain ⟨j, hj, hb⟩ := hP.over i g (by rw [← g?_old (u := u) hlt]; exact hg) hne ((counts_old hlt).1 hc)
      have hjl : j < t0.size := by
        obtain ⟨z, hz, _⟩ := Option.map_eq_some_iff.1 hj
        exact lt_size_of_getElem? hz
      exact ⟨j, by rw [g?_old hjl]; exact hj, hb_app u hb⟩
    · exact ⟨x, hx2, wk i i' hi' (by simp [Trace.g?, hop, e]) hc⟩
  · obtain ⟨ad, e, hx⟩ := hs
    exact ⟨ad, e, .inl hx⟩
  · have := hcm.ct.gs i op hi
    rw [hcm.size]
    omega

/-- The beginning. -/
theorem phase_init (K : PhOk H AW) (hW : H.X H.L.Wg) (hF : Fr H.P H.X gs w t q) (h0 : gs[0]? = some a) (hgs : gs.size = old + 1) (hN : H.L.N ≤ w.heap.size) (hwg : WgAt H.ty H.L.Wg w 0 0) (hpay : PayAt H.L.C H.L.n w) (hz : ∀ i, i < H.L.n → w.cell? ⟨H.L.C, i, none⟩ = some H.z)
    (hst : H.Spawns (H.FinS AW) H.L.n [] a w) : ∃ μ, InvP H AW old t μ (crowd gs w sl) t := by
  obtain ⟨B0, _, hP⟩ := hF.past
  have shP : ∀ l, ShX H.X l → ShP H.L H.X l := fun l ⟨ad, e, hx⟩ => ⟨ad, e, .inl hx⟩
  have shX : ∀ l, ShP H.L H.X l → ShX H.X l := fun l ⟨ad, e, hx⟩ => ⟨ad, e, hx.elim id fun e => by rw [e]; exact hW⟩
  have kn : ∀ l, ¬ ShP H.L H.X l → Perm t 0 l := fun l hl i x hx e => (hP.known i x hx (hF.mem i x hx)).elim id fun h => absurd (shP _ (e ▸ h.1)) hl
  have hcm : Cm H old t 0 gs w t (fun _ => ⟨0, 0, 0⟩) (fun _ => []) [] 0 q := by
    refine ⟨hgs, fun i hi => absurd hi (Nat.not_lt_zero i), fun i g hi _ hg => hF.lv.old i g hi hg, hF.lv.above, ⟨fun i op x hi hx hs => hF.quiet i op x hi hx (shX _ hs), fun k _ _ l hl => ?_, fun k _ hk l hl => ?_, fun l hl _ => kn l hl, fun l hl _ i x hx e _ => kn l hl i x hx e, hP.clean, fun i op hi => ?_⟩,
      fun i hi e => ?_, hP.hears, fun i hi => absurd hi (Nat.not_lt_zero i), fun i hi => absurd hi (Nat.not_lt_zero i), fun i hi => absurd hi (Nat.not_lt_zero i), hpay, hF.seen, hN, ⟨fun i hi => absurd hi (Nat.not_lt_zero i), by simp, fun i _ hi => absurd hi (Nat.not_lt_zero i), fun i hi => absurd hi (Nat.not_lt_zero i)⟩,
      ⟨#[], by simp, by simp⟩, fun i x hx hk => ?_, hF.mem, fun i _ hi => hz i hi⟩
    · obtain ⟨i, hi, _⟩ := hl
      omega
    · have := hl.1
      omega
    · have := hF.gsb i op hi
      omega
    · have := lt_of_act? e
      omega
    · exact (hP.known i x hx (hF.mem i x hx)).elim .inr fun h => .inl (shP _ h.1)
  have e0 : ∀ tag, pend tag = 0 → (0 : Int) = ((Vc 0 (fun _ => (⟨0, 0, 0⟩ : WD)) + pend tag : Nat) : Int) * KK := fun tag hp => by rw [hp]; simp [Vc, sumTo]
  cases hn : H.L.n with
  | zero =>
    rw [hn] at hst
    obtain ⟨m, hm⟩ := hst
    have hcs := Ph.Cs.kd (AW := AW) hm
    rw [hn] at hcs
    refine ⟨_, gs, w, sl, 0, _, _, _, q, .kd, m, 0, a, 0, 0, rfl, h0, hcs, hcm, hwg, ?_, by simp, rfl⟩
    have hm' := ConcN.Mode.opn (j := 0) (D := fun _ => (⟨0, 0, 0⟩ : WD)) (tag := .kd) trivial (fun i hi => absurd hi (Nat.not_lt_zero i)) (by simp)
    rw [← e0 .kd rfl] at hm'
    exact hm'
  | succ r =>
    rw [hn] at hst
    obtain ⟨m, hm⟩ := hst
    have hcs := Ph.Cs.skd (AW := AW) (H := H) (r := r) (m := m) (o := []) (g := a) (w := w) (by omega) hm
    have ej : H.L.n - (r + 1) = 0 := by omega
    rw [ej] at hcs
    refine ⟨_, gs, w, sl, 0, _, _, _, q, .sp r 5, m, 0, a, 0, 0, rfl, h0, hcs, hcm, hwg, ?_, by simp, rfl⟩
    have hm' := ConcN.Mode.opn (j := 0) (D := fun _ => (⟨0, 0, 0⟩ : WD)) (tag := (.sp r 5)) trivial (fun i hi => absurd hi (Nat.not_lt_zero i)) (by simp)
    rw [← e0 (.sp r 5) rfl] at hm'
    exact hm'

/-- ████ A PHASE, FROM FRAME TO FRAME. ████ -/
theorem phase_fr (K : PhOk H AW) (hW : H.X H.L.Wg) (hF : Fr H.P H.X gs w t q) (h0 : gs[0]? = some a) (hN : H.L.N ≤ w.heap.size) (hwg : WgAt H.ty H.L.Wg w 0 0) (hpay : PayAt H.L.C H.L.n w) (hz : ∀ i, i < H.L.n → w.cell? ⟨H.L.C, i, none⟩ = some H.z)
    (hst : H.Spawns (H.FinS AW) H.L.n [] a w) :
    ∃ (N : Nat) (gs' : Array Goroutine) (a' : Goroutine) (w' : World) (sl' : Option (Nat × Nat)) (t' : Trace) (q' : Nat → Nat) (O : Nat → List Nat) (o0 : List Nat),
      runNT H.P N (crowd gs w sl) t = (.next (crowd gs' w' sl'), t') ∧ gs'[0]? = some a' ∧ a'.status = .running ∧ H.Anc a' w' ∧ Fr H.P H.X gs' w' t' q' ∧ H.L.N ≤ w'.heap.size ∧ PayAt H.L.C H.L.n w' ∧ WgAt H.ty H.L.Wg w' 0 0 ∧
      Lists H.L H.L.n O o0 w'.heap.size ∧ ∀ i, i < H.L.n → H.Fin i (O i) w' := by
  have hpos : 0 < gs.size := (Array.getElem?_eq_some_iff.1 h0).1
  obtain ⟨old, hgs⟩ : ∃ old, gs.size = old + 1 := ⟨gs.size - 1, by omega⟩
  obtain ⟨μ, hI⟩ := phase_init (sl := sl) K hW hF h0 hgs hN hwg hpay hz hst
  obtain ⟨N, gs', w', sl', t', a', hr, hE⟩ := phase_runs K μ _ t hI
  obtain ⟨q', hF'⟩ := hE.fr K hW hF hgs
  obtain ⟨D, O, o0, d0, q1, hcm, hq, _⟩ := hE.cm
  exact ⟨N, gs', a', w', sl', t', q', O, o0, hr, hE.a0, hE.run, hE.anc, hF', hcm.N, hcm.pay, hE.wg, hcm.ls, fun i hi => hcm.fin i hi (by rw [hq i hi]; omega)⟩
end
end

section
open Go.Conc Go.ConcN
open Go.ConcR (Payload)

theorem filter_lt (p p' : Nat → Bool) (h : ∀ j, p' j = true → p j = true) {i : Nat} (hp : p i = true) (hp' : p' i = false) : ∀ l : List Nat, i ∈ l → (l.filter p').length < (l.filter p).length := by
  have le : ∀ l : List Nat, (l.filter p').length ≤ (l.filter p).length := by
    intro l
    induction l with
    | nil => simp
    | cons x l ih =>
      cases hx : p' x with
      | true => simp [List.filter_cons, hx, h x hx]; exact ih
      | false =>
        cases hx2 : p x <;> simp [List.filter_cons, hx, hx2]
        · exact ih
        · omega
  intro l hi
  induction l with
  | nil => cases hi
  | cons x l ih =>
    rcases List.mem_cons.1 hi with rfl | hi
    · have := le l
      simp [List.filter_cons, hp, hp']
      omega
    · have := ih hi
      cases hx : p' x with
      | true => simp [List.filter_cons, hx, h x hx]; exact this
      | false =>
        cases hx2 : p x <;> simp [List.filter_cons, hx, hx2]
        · exact this
        · omega

/-- How many have not been listed. -/
def remB (l : Array Bool) (n : Nat) : Nat := ((List.range n).filter fun i => !l.getD i true).length
theorem remB_set {l : Array Bool} {n i : Nat} (hi : i < n) (h : l.getD i true = false) : remB (l.setIfInBounds i true) n < remB l n := by
  have hlt : i < l.size := by
    rcases Nat.lt_or_ge i l.size with h1 | h1
    · exact h1
    · simp [Array.getD_eq_getD_getElem?, Array.getElem?_eq_none h1] at h
  refine filter_lt _ _ (fun j hj => ?_) (i := i) (by simp only [h, Bool.not_false]) ?_ _ (List.mem_range.2 hi)
  · simp only [Array.getD_eq_getD_getElem?] at hj ⊢
    by_cases e : i = j
    · subst e
      simp [Array.getElem?_setIfInBounds_self_of_lt hlt] at hj
    · rwa [Array.getElem?_setIfInBounds_ne e] at hj
  · simp [Array.getD_eq_getD_getElem?, Array.getElem?_setIfInBounds_self_of_lt hlt]

theorem EvO.any {L : Lay} {X : Nat → Prop} {ci : Option Nat} {o : List Nat} {B B' : Nat} {e : Event} (h : EvO L X ci o B e) : EvO L X ci o B' e := ⟨h.touch, h.dis, h.ena, h.rel⟩
variable [Payload]
section
variable {P : Program} {main : Bool} {ty : TypeId} {L : Lay} {X : Nat → Prop} {ci : Option Nat} {Stop : List Nat → Goroutine → World → Prop} {n : Nat} {o : List Nat} {g g' : Goroutine} {w : World}

theorem DO.at (w : World) (d : Nat) : DO L ci o o w (w.at d) := ⟨.inl rfl, Nat.le_refl _, fun _ hb => .inl hb, fun _ _ _ _ => rfl, id, fun _ _ => rfl, rfl, rfl⟩

theorem GoesO.ctl (hs : g.status = .running) (h : ∀ w, stepG P main g w = .go g' w #[]) (hk : GoesO P main ty L X ci Stop n o g' w) : GoesO P main ty L X ci Stop (n + 1) o g w :=
  .step hs fun w₁ h₁ => by rw [h]; exact ⟨o, ⟨.idle _, by simp⟩, hk.rely h₁⟩

variable {b : Frame} {a : Act} {k : List Item} {cs : List Frame} {ops : Array Oper} {i : Nat} {rest : List Nat} {oo : Oper}

theorem GoesO.op (ho : ops[i]? = some oo) (hw : Region.wanted oo (yielded ops a.tmps) = true) (hk : b.kind ≠ .early)
    (h : ∀ w₁, RO ty L ci o w w₁ → ∃ v w' o', ((execOp a.eval oo).run P w₁ = .ok (.value v) w' ∨ ((execOp a.eval oo).run P w₁ = .ok .skip w' ∧ v = undef)) ∧ DO L ci o o' w₁ w' ∧ (∀ e ∈ listed P b.fn a oo w₁, EvO L X ci o' 0 e) ∧
      GoesO P main ty L X ci Stop n o' (G (b.at (a.put oo.dst v) (.inRegion ops rest :: k)) cs) w') :
    GoesO P main ty L X ci Stop (n + 1) o (G (b.at a (.inRegion ops (i :: rest) :: k)) cs) w := by
  refine .step rfl fun w₁ h₁ => ?_
  obtain ⟨v, w', o', hr, hd, he, hg⟩ := h w₁ h₁
  rcases hr with hr | ⟨hr, rfl⟩
  · rw [stepG_value ho hw hk hr]
    exact ⟨o', ⟨hd, fun e hm => (he e hm).any⟩, hg⟩
  · rw [stepG_none ho hw hk hr]
    exact ⟨o', ⟨hd, fun e hm => (he e hm).any⟩, hg⟩

theorem GoesO.draw {id : Nat} (hm : P.follows .mixedOrders = true) (h : ∀ t, GoesO P main ty L X ci Stop n o (G (b.at a (.inRegion ops (Region.linearise .any ops t) :: k)) cs) w) :
    GoesO P main ty L X ci Stop (n + 1) o (G (b.at a (.code (.region id ops true) :: k)) cs) w := by
  refine .step rfl fun w₁ h₁ => ?_
  rw [stepG_region_draw]
  simp only [Region.schedule, hm, Bool.true_or, if_true]
  exact ⟨o, ⟨DO.at w₁ (w₁.drawn + 1), by simp⟩, ((h _).rely h₁).rely (RO.at w₁ (w₁.drawn + 1))⟩

theorem GoesO.drawn {Inv : Array Bool → List Nat → Act → World → Prop} {N : Nat}
    (hstep : ∀ listed o a w i rest n, Inv listed o a w → i ∈ Region.ready .any ops listed → (∀ o' a' w', Inv (listed.setIfInBounds i true) o' a' w' → GoesO P main ty L X ci Stop n o' (G (b.at a' (.inRegion ops rest :: k)) cs) w') →
      GoesO P main ty L X ci Stop (n + 1) o (G (b.at a (.inRegion ops (i :: rest) :: k)) cs) w)
    (hend : ∀ listed o a w, Inv listed o a w → Region.ready .any ops listed = [] → GoesO P main ty L X ci Stop N o (G (b.at a (.inRegion ops [] :: k)) cs) w) :
    ∀ fuel t listed o a w, remB listed ops.size ≤ fuel → Inv listed o a w → GoesO P main ty L X ci Stop (fuel + N) o (G (b.at a (.inRegion ops (Region.linearise.go .any ops fuel t listed []) :: k)) cs) w := by
  intro fuel
  induction fuel with
  | zero =>
    intro t listed o a w hf hI
    have hnil : Region.ready .any ops listed = [] := by
      apply List.eq_nil_iff_forall_not_mem.2
      intro j hj
      obtain ⟨h1, oo, h2, _⟩ := mem_ready.1 hj
      have : j ∈ (List.range ops.size).filter fun i => !listed.getD i true := List.mem_filter.2 ⟨List.mem_range.2 (Array.getElem?_eq_some_iff.1 h2).1, by rw [h1]; rfl⟩
      have e := List.eq_nil_of_length_eq_zero (Nat.le_zero.1 hf)
      rw [e] at this
      cases this
    rw [Nat.zero_add]
    simpa [Region.linearise.go] using hend listed o a w hI hnil
  | succ fuel ih =>
    intro t listed o a w hf hI
    simp only [Region.linearise.go]
    change GoesO P main ty L X ci Stop (fuel + 1 + N) o (G (b.at a (.inRegion ops (match (Region.ready .any ops listed)[t % (Region.ready .any ops listed).length]? with
      | some i => Region.linearise.go .any ops fuel (t / (Region.ready .any ops listed).length) (listed.setIfInBounds i true) [i]
      | none => [].reverse) :: k)) cs) w
    cases hi : (Region.ready .any ops listed)[t % (Region.ready .any ops listed).length]? with
    | none =>
      have hnil : Region.ready .any ops listed = [] := by
        cases hr : Region.ready .any ops listed with
        | nil => rfl
        | cons x xs =>
          rw [hr] at hi
          have hlt : t % (x :: xs).length < (x :: xs).length := Nat.mod_lt _ (by simp)
          simp at hi
          simp at hlt
          omega
      exact (hend listed o a w hI hnil).mono (by omega)
    | some i =>
      simp only []
      rw [linearise_go_acc, List.reverse_singleton, List.singleton_append]
      have hmem := List.mem_of_getElem? hi
      obtain ⟨h1, oo, h2, _⟩ := mem_ready.1 hmem
      have hlt := remB_set (n := ops.size) (Array.getElem?_eq_some_iff.1 h2).1 h1
      have := hstep listed o a w i (Region.linearise.go .any ops fuel (t / (Region.ready .any ops listed).length) (listed.setIfInBounds i true) []) (fuel + N) hI hmem fun o' a' w' hI' => ih _ _ o' a' w' (by omega) hI'
      rw [show fuel + 1 + N = fuel + N + 1 by omega]
      exact this

/-- The beginning of a drawn region. -/
theorem GoesO.region_drawn {Inv : Array Bool → List Nat → Act → World → Prop} {N id : Nat} (hm : P.follows .mixedOrders = true)
    (hstep : ∀ listed o a w i rest n, Inv listed o a w → i ∈ Region.ready .any ops listed → (∀ o' a' w', Inv (listed.setIfInBounds i true) o' a' w' → GoesO P main ty L X ci Stop n o' (G (b.at a' (.inRegion ops rest :: k)) cs) w') →
      GoesO P main ty L X ci Stop (n + 1) o (G (b.at a (.inRegion ops (i :: rest) :: k)) cs) w)
    (hend : ∀ listed o a w, Inv listed o a w → Region.ready .any ops listed = [] → GoesO P main ty L X ci Stop N o (G (b.at a (.inRegion ops [] :: k)) cs) w)
    (h0 : Inv (Array.replicate ops.size false) o a w) : GoesO P main ty L X ci Stop (ops.size + N + 1) o (G (b.at a (.code (.region id ops true) :: k)) cs) w := by
  refine GoesO.draw hm fun t => ?_
  exact GoesO.drawn hstep hend ops.size t _ o a w (by unfold remB; exact Nat.le_trans (List.length_filter_le _ _) (by simp)) h0

/-- The library's walk, taken in, with an invariant carried along. -/
theorem GoesO.of_goesI {R : World → World → Prop} {D : World → World → Array Event → Prop} {S : Goroutine → World → Prop} {I : World → Prop} (hR : ∀ a b, RO ty L ci o a b → R a b) (hD : ∀ a b es, D a b es → DO L ci o o a b ∧ ∀ e ∈ es, EvO L X ci o b.heap.size e)
    (hI1 : ∀ a b, RO ty L ci o a b → I a → I b) (hI2 : ∀ a b es, D a b es → I a → I b) (hS : ∀ g w, S g w → I w → Stop o g w) : ∀ {n : Nat} {g : Goroutine} {w : World}, Goes P main R D S n g w → I w → GoesO P main ty L X ci Stop n o g w
  | 0, g, w, h, hi => fun w₁ h₁ => hS _ _ (h w₁ (hR _ _ h₁)) (hI1 _ _ h₁ hi)
  | n + 1, g, w, h, hi => by
    rcases h with h | ⟨hs, h⟩
    · exact .inl fun w₁ h₁ => hS _ _ (h w₁ (hR _ _ h₁)) (hI1 _ _ h₁ hi)
    · refine .inr ⟨hs, fun w₁ h₁ => ?_⟩
      have := h w₁ (hR _ _ h₁)
      revert this
      cases stepG P main g w₁ <;> simp only [GStep.goes, imp_self]
      exact fun ⟨d, x⟩ => ⟨o, hD _ _ _ d, GoesO.of_goesI hR hD hI1 hI2 hS x (hI2 _ _ _ d (hI1 _ _ h₁ hi))⟩
end
end
end Go.Proofs.Ytnifgfnhcjhodaa
