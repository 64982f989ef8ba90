/- XPH: several texts in one. Conditions: each lemma's own. -/
import Derived.Test.YtfccceogmhjljaaPJ
import Derived.Test.YtfccceogmhjljaaPN
import Derived.Test.YtfccceogmhjljaaW4



namespace Go.Proofs.Ytfccceogmhjljaa
open Go.RowKit
set_option linter.unusedVariables false

/-- A heap of masks behind a pointer: its cell in block hb, its row in another block, both from lo on and below hi. -/
def HeapM (w : World) (hb lo hi : Nat) (q : List Nat) : Prop :=
  ∃ a n c, w.heap[hb]? = some (.cells #[.slice a n c] 93 (0, 0)) ∧ OwnC w lo a n c q ∧ lo ≤ hb ∧ hb < hi ∧ ∀ g, (Value.slice a n c).ownBlock = some g → g < hi ∧ g ≠ hb

set_option maxRecDepth 20000 in
set_option maxHeartbeats 400000 in
theorem oLen_any {a : Option Addr} {n c : Nat} {w : World} (hn : n ≤ 9223372036854775807) :
    Calls Try.prog 100 #[.slice a n c] w fun e w' => e = .returned (.int .i64 n) ∧ w = w' := by
  go_enter Try.func100, Try.ntmps100
  go_wp2_with fail
  go_ret
  exact ⟨rfl, rfl⟩
set_option maxRecDepth 20000 in
set_option maxHeartbeats 1000000 in
theorem oLess_any {a : Option Addr} {n c : Nat} {q : List Nat} {i j : Nat} {b : Bool} {w : World} (h : Crs w a n q) (hi : i < n) (hj : j < n) (hb : decide (q.getD i 0 < q.getD j 0) = b) :
    Calls Try.prog 138 #[.slice a n c, .int .i64 i, .int .i64 j] w fun e w' => e = .returned (.bool b) ∧ Dr w w' := by
  obtain ⟨b1, off, rfl, hc⟩ := h.cell hi
  have hc2 := h.cellAt hj
  have hm := h.max
  obtain ⟨x, hx⟩ : ∃ x, x = q.getD i 0 := ⟨_, rfl⟩
  obtain ⟨y, hy⟩ : ∃ y, y = q.getD j 0 := ⟨_, rfl⟩
  rw [← hx] at hc hb
  rw [← hy] at hc2 hb
  clear hx hy
  have hiI : (i : Int) < (n : Int) := by omega
  have hjI : (j : Int) < (n : Int) := by omega
  have hB := Lib.hid hb
  clear hb
  go_enter Try.func138, Try.ntmps138
  go_wp2_with fail
  go_quiet (fail)
  go_wp2_with fail
  go_ret
  exact ⟨by rw [← hB.out]; rfl, ⟨_, rfl⟩⟩

theorem crsOwn {w : World} {lo : Nat} {a : Option Addr} {n c : Nat} {q : List Nat} (h : OwnC w lo a n c q) (hn : 0 < n) : ∃ g, a = some ⟨g, 0, none⟩ ∧ lo ≤ g := by
  rcases h.2 with ⟨hv, h0⟩ | ⟨g, cap, cur, hv, hB, _⟩
  · omega
  · injection hv with ha; exact ⟨g, ha, hB⟩
theorem OwnC.set {w : World} {B g n c : Nat} {q : List Nat} (h : OwnC w B (some ⟨g, 0, none⟩) n c q) (j : Nat) (u : Nat) :
    OwnC (w.setCell ⟨g, j, none⟩ (.int .u64 (u : Nat))) B (some ⟨g, 0, none⟩) n c (q.set j u) ∧ w.grownBy (w.setCell ⟨g, j, none⟩ (.int .u64 (u : Nat))) (some g) := by
  have := World.ownsRow.stored (h : w.ownsRow B 63 1 (.slice (some ⟨g, 0, none⟩) n c) n (q.map (fun c => Value.int .u64 (c : Nat)))) j (.int .u64 (u : Nat))
  exact ⟨by unfold OwnC Own; rw [List.map_set]; exact this.1, this.2⟩
set_option maxRecDepth 20000 in
set_option maxHeartbeats 2000000 in
theorem oSwap_any {lo g n c : Nat} {q : List Nat} {i j : Nat} {w : World} (h : OwnC w lo (some ⟨g, 0, none⟩) n c q) (hi : i < n) (hj : j < n) :
    Calls Try.prog 141 #[.slice (some ⟨g, 0, none⟩) n c, .int .i64 i, .int .i64 j] w fun e w' => (∃ v, e = .returned v) ∧ OwnC w' lo (some ⟨g, 0, none⟩) n c (swp q i j) ∧ w.grownBy w' (some g) := by
  have hc := h.crs.cellAt hi
  have hc2 := h.crs.cellAt hj
  have hm := h.crs.max
  have hf1 : w.frozen? ⟨g, i, none⟩ = false := World.ownsRow.frozenAt (h : w.ownsRow lo 63 1 (.slice (some ⟨g, 0, none⟩) n c) n (q.map (fun c => Value.int .u64 (c : Nat)))) i
  have hf2 : w.frozen? ⟨g, j, none⟩ = false := World.ownsRow.frozenAt (h : w.ownsRow lo 63 1 (.slice (some ⟨g, 0, none⟩) n c) n (q.map (fun c => Value.int .u64 (c : Nat)))) j
  rw [Nat.zero_add] at hc hc2
  obtain ⟨x, hx⟩ : ∃ x, x = q.getD i 0 := ⟨_, rfl⟩
  obtain ⟨y, hy⟩ : ∃ y, y = q.getD j 0 := ⟨_, rfl⟩
  rw [← hx] at hc
  rw [← hy] at hc2
  have hX := Lib.hid hx
  have hY := Lib.hid hy
  clear hx hy
  have hiI : (i : Int) < (n : Int) := by omega
  have hjI : (j : Int) < (n : Int) := by omega
  have hs1 := h.set i y
  have hc3 := hs1.1.crs.cellAt hj
  rw [Nat.zero_add] at hc3
  obtain ⟨z, hz⟩ : ∃ z, z = (q.set i y).getD j 0 := ⟨_, rfl⟩
  rw [← hz] at hc3
  have hs2 := Lib.hid (hs1.1.set j x)
  have hs1 := Lib.hid hs1.2
  have hsw := Lib.hid (show (q.set i y).set j x = swp q i j from by unfold swp; rw [hX.out, hY.out])
  clear hz
  go_enter Try.func141, Try.ntmps141
  go_wp2_with fail
  go_region
  all_goals
    go_end0
    exact ⟨⟨_, rfl⟩, by rw [← hsw.out]; exact Own.ext0 hs2.out.1 ((Ext.refl none _).drew), World.grownBy.trans (World.grownBy.trans hs1.out hs2.out.2) ⟨rfl, rfl, rfl, Nat.le_refl _, fun _ _ _ => rfl⟩⟩

theorem pushed {w : World} {hb : Nat} {v : Value} {t : TypeId} (h : ∃ u, w.heap[hb]? = some (.cells #[u] t (0, 0))) : (w.setCell ⟨hb, 0, none⟩ v).heap[hb]? = some (.cells #[v] t (0, 0)) := by
  obtain ⟨u, h⟩ := h
  simp [World.setCell, Array.getElem?_modify, h]
theorem HeapM.cell {w : World} {hb lo hi : Nat} {q : List Nat} (h : HeapM w hb lo hi q) : ∃ a c, w.cell? ⟨hb, 0, none⟩ = some (.slice a q.length c) ∧ w.frozen? ⟨hb, 0, none⟩ = false ∧ OwnC w lo a q.length c q ∧ (∀ g, (Value.slice a q.length c).ownBlock = some g → g < hi ∧ g ≠ hb) ∧ lo ≤ hb ∧ hb < hi := by
  obtain ⟨a, n, c, h1, h2, h3, h4, h5⟩ := h
  have hl := h2.len
  subst hl
  exact ⟨a, c, by simp [World.cell?, h1], by simp [World.frozen?, h1], h2, h5, h3, h4⟩

/-- 'q = append(q, c)', with where the row lies then -/
theorem app_crew_at (t : TypeId) (ht : Try.prog.underlying t = some (.slice 63)) (w : World) {ops : Array Oper} {rest : List Oper} {o : Oper} {a : Act} {Q : Exit → Act → World → Prop} (hgd : o.guard = none) (s x : Operand)
    (ho : o.op = .call { callee := .builtin .append, args := #[s, x], argTypes := #[t, t] })
    (B : Nat) (ad : Option Addr) (n c : Nat) (q : List Nat) (hown : OwnC w B ad n c q) (y : Nat) (hs : a.eval s = .slice ad n c)
    (hx : a.eval x = .slice (some ⟨w.heap.size, 0, none⟩) 1 1) (hlen : n + 1 ≤ 1000000) (hB : B ≤ w.heap.size)
    (h : ∀ g c' w', OwnC w' B (some ⟨g, 0, none⟩) (n + 1) c' (q ++ [y]) → w.grownBy w' (Value.slice ad n c).ownBlock → (some g = (Value.slice ad n c).ownBlock ∨ g = w.heap.size + 1) → wpList Try.prog ops Q rest (a.put o.dst (.slice (some ⟨g, 0, none⟩) (n + 1) c')) w') :
    wpList Try.prog ops Q (o :: rest) a (w.alloc (.cells #[.int .u64 (y : Nat)] 63)) := by
  obtain ⟨i0, hi, hz0, hz1, hz2⟩ := info_parts crewInfo
  refine append1_at w hgd s x t ho B 63 i0 (.int .u64 0) 8 ht hi hz0 hz1 hz2 rfl ad n c _ hs hown (.int .u64 (y : Nat)) hx rfl hlen (by decide) hB ?_
  intro g c' w' h1 h2 h3
  exact h g c' w' (by simpa [OwnC, List.map_append] using h1) h2 h3
theorem ta_crew (x : Nat) (w : World) : (Instr.typeAssert (.iface 63 (.int .u64 (x : Nat))) 20 63 true).run Try.prog w = .ok (.tuple #[.int .u64 (x : Nat), .bool true]) w := by kernel_rfl
set_option maxRecDepth 20000 in
set_option maxHeartbeats 2000000 in
theorem oPush_any {w0 : World} {hb lo hi x : Nat} {q : List Nat} {w : World} (h : HeapM w hb lo hi q) (hx0 : Ext none w0 w) (hlo : w0.heap.size ≤ lo) (hq : q.length + 1 ≤ 1000000) (hhi : hi ≤ w.heap.size) :
    Calls Try.prog 140 #[.pointer (some ⟨hb, 0, none⟩), .iface 63 (.int .u64 (x : Nat))] w fun e w' => (∃ v, e = .returned v) ∧ HeapM w' hb lo w'.heap.size (q ++ [x]) ∧ Ext none w0 w' := by
  obtain ⟨a, c, hc, hf, ho, hne, hl, hhb⟩ := h.cell
  go_enter Try.func140, Try.ntmps140
  have hnb := Lib.hid (show some hb ≠ (Value.slice a q.length c).ownBlock from fun e => (hne hb e.symm).2 rfl)
  have hblk := Lib.hid (show ∀ w1, w.grownBy w1 (Value.slice a q.length c).ownBlock → ∃ u, w1.heap[hb]? = some (.cells #[u] 93 (0, 0)) from fun w1 hg => by
    obtain ⟨a', n', c', h1, _⟩ := h
    exact ⟨_, (hg.block hb (by omega) hnb.out).trans h1⟩)
  have t1 := ta_crew
  have ho' := Lib.hid ho
  clear hne ho h
  go_wp2_with (at_builtin; refine app_crew_at 93 Try.underlying93 _ rfl _ _ rfl lo a _ c _ ho'.out x rfl rfl hq (by omega) ?_; intro g c' w1 ho1 hg1 hat1; have hc1 := hg1.cell hc hnb.out; have hf1 := (World.frozen?_of_block (a := ⟨hb, 0, none⟩) (hg1.block hb (by omega) hnb.out)).trans hf)
  go_end0
  have hlt1 := (World.ownsRow.lt ho1 g rfl)
  have hne1 : g ≠ hb := by
    rcases hat1 with e | e
    · rintro rfl; exact hnb.out e
    · omega
  have hst := pushed (v := .slice (some ⟨g, 0, none⟩) (q.length + 1) c') (hblk.out w1 hg1)
  refine ⟨⟨_, rfl⟩, ⟨_, _, _, hst, Own.same ho1 (fun j hj => heap_setCell_other w1 ⟨hb, 0, none⟩ j _ (fun e => ?_)), hl, ?_, fun j hj => ?_⟩, ?_⟩
  · have : g = j := by simpa [Value.ownBlock] using hj
    simp at e; omega
  · have := hg1.size; simp only [World.size_setCell]; omega
  · have : g = j := by simpa [Value.ownBlock] using hj
    subst this
    simp only [World.size_setCell]; exact ⟨hlt1.2, hne1⟩
  · exact (Ext.grown hx0 hg1 (fun j hj => .inl (by have := (World.ownsRow.lt ho'.out j hj).1; omega))).set (.inl (by show w0.heap.size ≤ hb; omega)) _

theorem Own.take {w : World} {B e : Nat} {a : Option Addr} {n c : Nat} {vs : List Value} (h : Own w B e a n c vs) {m : Nat} (hm : m ≤ n) (h0 : 0 < n) : Own w B e a m c (vs.take m) := by
  have hl := h.len
  refine ⟨by rw [List.length_take]; omega, ?_⟩
  rcases h.2 with ⟨_, h1⟩ | ⟨g, cap, cur, hv, hB, hg, hn, hc, hs, ht⟩
  · omega
  · injection hv with ha _ hcap
    subst ha hcap
    refine .inr ⟨g, c, cur, rfl, hB, hg, by omega, hc, hs, ?_⟩
    rw [← ht, List.take_take]; congr 1; omega
theorem OwnC.cap {w : World} {B : Nat} {a : Option Addr} {n c : Nat} {q : List Nat} (h : OwnC w B a n c q) : n ≤ c ∧ c ≤ 9223372036854775807 := by
  rcases h.2 with ⟨hv, h0⟩ | ⟨g, cap, _, hv, _, _, h1, h2, _⟩
  · injection hv with _ _ hc; subst hc; omega
  · injection hv with _ _ hc; subst hc; simp only [maxLen] at h2; omega
set_option maxRecDepth 20000 in
set_option maxHeartbeats 2000000 in
theorem oPop_any {hb lo hi n : Nat} {q : List Nat} {w : World} (h : HeapM w hb lo hi q) (hq : q.length = n + 1) :
    Calls Try.prog 139 #[.pointer (some ⟨hb, 0, none⟩)] w fun e w' => e = .returned (.iface 63 (.int .u64 (q.getD n 0 : Nat))) ∧ HeapM w' hb lo hi (q.take n) ∧ Chg lo hi w w' := by
  have h' := Lib.hid h
  obtain ⟨a, c, hc, hf, ho, hne, hl, hhb⟩ := h.cell
  rw [hq] at hc ho hne
  obtain ⟨g, rfl, hg⟩ := crsOwn ho (by omega)
  have hcell := ho.crs.cellAt (k := n) (by omega)
  rw [Nat.zero_add] at hcell
  have hcap := ho.cap
  have hm := ho.crs.max
  obtain ⟨x, hx⟩ : ∃ x, x = q.getD n 0 := ⟨_, rfl⟩
  rw [← hx] at hcell ⊢
  have hX := Lib.hid hx
  have ho' := Lib.hid ho
  have hne' := Lib.hid (hne g rfl)
  have hQ := Lib.hid hq
  clear hx ho h hne hq
  have e1 : ((n + 1 : Nat) : Int) - 1 = (n : Int) := by omega
  have e2 : IntKind.i64.wrap (((n + 1 : Nat) : Int) - 1) = (n : Int) := by rw [IntWalk.i64_in _ (by omega)]; omega
  have hnc : n ≤ c := by omega
  go_enter Try.func139, Try.ntmps139
  go_wp2_with fail
  go_ret
  have hst := pushed (v := .slice (some ⟨g, 0, none⟩) n c) (show ∃ u, w.heap[hb]? = some (.cells #[u] 93 (0, 0)) from by obtain ⟨a', n', c', h1, _⟩ := h'.out; exact ⟨_, h1⟩)
  have hlt := World.ownsRow.lt ho'.out g rfl
  have hcut := Own.take ho'.out (m := n) (by omega) (by omega)
  refine ⟨rfl, ⟨_, n, c, hst, ?_, hl, hhb, fun j hj => ?_⟩, Chg.of_grown (r := some hb) ⟨rfl, rfl, rfl, by simp, fun k hk hne => heap_setCell_other w ⟨hb, 0, none⟩ k _ (fun e => hne (by simp [e]))⟩ (fun j hj => by cases hj; exact ⟨hl, hhb⟩)⟩
  · have : OwnC w lo (some ⟨g, 0, none⟩) n c (q.take n) := by unfold OwnC; rw [List.map_take]; exact hcut
    exact Own.same this (fun j hj => heap_setCell_other w ⟨hb, 0, none⟩ j _ (fun e => by
      have : g = j := by simpa [Value.ownBlock] using hj
      simp at e; exact hne'.out.2 (by omega)))
  · have : g = j := by simpa [Value.ownBlock] using hj
    subst this; exact hne'.out

theorem ldv (b : Nat) (w : World) (v : Value) (h : w.cell? ⟨b, 0, none⟩ = some v) : (loadVar 93 ⟨b, 0, none⟩).run Try.prog w = .ok v w := by
  simp [go_sem, h]
theorem wnc (t : TypeId) (a : Addr) (x y : String) (w : World) : (Builtin.ssaWrapNilChk_ #[t] t #[.pointer (some a), strVal x, strVal y]).run Try.prog w = .ok (.pointer (some a)) w := rfl
set_option maxRecDepth 20000 in
theorem m_val (name : String) (F : Nat) (hm : ((Try.prog.info? 92).bind fun i => (i.methods.find? (·.name == name)).map fun m => (m.path, m.func)) = some (#[], some (F, false)))
    (b : Nat) (w : World) (v : Value) (h : w.cell? ⟨b, 0, none⟩ = some v) : (method 236 92 (.pointer (some ⟨b, 0, none⟩)) name).run Try.prog w = .ok (F, v) w := by
  obtain ⟨i, hi, hm⟩ := Option.bind_eq_some_iff.1 hm
  obtain ⟨m, hf, hm⟩ := Option.map_eq_some_iff.1 hm
  injection hm with h1 h2
  have hl := ldv b w v h
  unfold method
  simp [typeInfo, hi, hf, h1, h2, follow, receiverAt, run_underlying Try.underlying92, Place.get, wnc, asAddr, hl]
theorem m_push (b : Nat) (w : World) : (method 236 92 (.pointer (some ⟨b, 0, none⟩)) "Push").run Try.prog w = .ok (140, .pointer (some ⟨b, 0, none⟩)) w := by kernel_rfl
theorem m_pop (b : Nat) (w : World) : (method 236 92 (.pointer (some ⟨b, 0, none⟩)) "Pop").run Try.prog w = .ok (139, .pointer (some ⟨b, 0, none⟩)) w := by kernel_rfl
theorem kLess : ((Try.prog.info? 92).bind fun i => (i.methods.find? (·.name == "Less")).map fun m => (m.path, m.func)) = some (#[], some (138, false)) := by kernel_rfl
theorem kSwap : ((Try.prog.info? 92).bind fun i => (i.methods.find? (·.name == "Swap")).map fun m => (m.path, m.func)) = some (#[], some (141, false)) := by kernel_rfl
theorem kLen : ((Try.prog.info? 92).bind fun i => (i.methods.find? (·.name == "Len")).map fun m => (m.path, m.func)) = some (#[], some (100, false)) := by kernel_rfl
theorem HeapM.same {w w' : World} {hb lo hi : Nat} {q : List Nat} (h : HeapM w hb lo hi q) (hs : ∀ g, lo ≤ g → g < hi → g < w.heap.size → w'.heap[g]? = w.heap[g]?) : HeapM w' hb lo hi q := by
  obtain ⟨a, n, c, h1, h2, h3, h4, h5⟩ := h
  exact ⟨a, n, c, (hs hb h3 h4 (Array.getElem?_eq_some_iff.1 h1).1).trans h1, Own.same h2 (fun g hg => hs g (World.ownsRow.lt h2 g hg).1 (h5 g hg).1 (World.ownsRow.lt h2 g hg).2), h3, h4, h5⟩
theorem HeapM.ext0 {w w' : World} {hb lo hi : Nat} {q : List Nat} (h : HeapM w hb lo hi q) (hx : Ext none w w') : HeapM w' hb lo hi q := h.same fun g _ _ hg => World.grownBy.block hx g hg (by simp)
theorem Chg.draw {lo hi : Nat} {w w' : World} (h : Dr w w') : Chg lo hi w w' := by
  obtain ⟨n, rfl⟩ := h; exact ⟨rfl, rfl, rfl, Nat.le_refl _, fun _ _ _ => rfl⟩
/-- after a swap of two places -/
theorem HeapM.swapped {w w' : World} {hb lo hi : Nat} {q p : List Nat} {a : Option Addr} {n c g : Nat} (h : HeapM w hb lo hi q) (hc : w.cell? ⟨hb, 0, none⟩ = some (.slice (some ⟨g, 0, none⟩) n c)) (ho : OwnC w' lo (some ⟨g, 0, none⟩) n c p) (hg : w.grownBy w' (some g)) : HeapM w' hb lo hi p ∧ Chg lo hi w w' := by
  obtain ⟨a', n', c', h1, h2, h3, h4, h5⟩ := h
  have hc2 : w.cell? ⟨hb, 0, none⟩ = some (.slice a' n' c') := by simp [World.cell?, h1]
  rw [hc2] at hc
  injection hc with hc
  injection hc with e1 e2 e3
  subst e1 e2 e3
  have hgb := h5 g rfl
  refine ⟨⟨_, _, _, (hg.block hb (Array.getElem?_eq_some_iff.1 h1).1 (fun e => by injection e with e; exact hgb.2 e.symm)).trans h1, ho, h3, h4, h5⟩, Chg.of_grown hg (fun j hj => by cases hj; exact ⟨(World.ownsRow.lt h2 g rfl).1, hgb.1⟩)⟩

set_option maxRecDepth 20000 in
set_option maxHeartbeats 2000000 in
theorem heapUp_any {w0 : World} {hb lo hi j : Nat} {q : List Nat} {w : World} (h : HeapM w hb lo hi q) (hj : j < q.length) (hup : upAt j q) (hq : q.length ≤ 1000000) :
    Calls Try.prog 112 #[.iface 92 (.pointer (some ⟨hb, 0, none⟩)), .int .i64 (j : Nat)] w fun e w' => (∃ v, e = .returned v) ∧ ∃ q', q'.Perm q ∧ heapOn q'.length q' ∧ HeapM w' hb lo hi q' ∧ Chg lo hi w w' := by
  go_enter Try.func112, Try.ntmps112
  go_wp2_with fail
  go_loopw [1] (fun i wr => ∃ (j : Nat) (q' : List Nat), i = .int .i64 (j : Nat) ∧ j < q.length ∧ q'.Perm q ∧ upAt j q' ∧ HeapM wr hb lo hi q' ∧ Chg lo hi w wr)
    (fun i _ => (intOf i).toNat)
  case atStart => exact ⟨j, q, rfl, hj, List.Perm.refl _, hup, h, Chg.refl _ _ _⟩
  case round =>
    obtain ⟨j, p, rfl, hj, hp, hup, hM, hC⟩ := hrel
    have hl := hp.length_eq
    by_cases h0 : j = 0
    · subst h0
      have hdone := Lib.hid (up_done hup (.inl rfl))
      have HM := Lib.hid hM
      have HP := Lib.hid hp
      have HC := Lib.hid hC
      clear hM hp hC hup hl
      go_wp2_with fail
      go_end0
      exact ⟨⟨_, rfl⟩, p, HP.out, hdone.out, HM.out, HC.out⟩
    · obtain ⟨i, hi⟩ : ∃ i, i = (j - 1) / 2 := ⟨_, rfl⟩
      have hij : i < j := by omega
      have e1 : ((j : Int) - 1) / 2 = (i : Int) := by omega
      have j1 : (1 : Int) ≤ (j : Int) := by omega
      have hbf : ((i : Int) == (j : Int)) = false := by rw [beq_eq_false_iff_ne]; omega
      obtain ⟨a, c, hc, hf, ho, hne, hlo, hhb⟩ := hM.cell
      have hHI := Lib.hid hi
      rw [hl] at hc ho hne
      have HM := Lib.hid hM
      have HP := Lib.hid hp
      have HC := Lib.hid hC
      have hcrs := ho.crs
      have HO := Lib.hid ho
      have HU := Lib.hid hup
      have hil : i < q.length := by omega
      clear hM hp hC hup hl hi ho hne
      obtain ⟨g, rfl, hg⟩ := crsOwn HO.out (by omega)
      have m1 := m_val "Less" _ kLess hb wr _ hc
      cases hless : decide (p.getD j 0 < p.getD i 0)
      · have hdone := Lib.hid (up_done HU.out (.inr (by rw [decide_eq_false_iff_not] at hless; rw [← hHI.out]; omega)))
        go_wp2_with (go_at_call 138; refine (oLess_any hcrs hj hil hless).mono ?_; rintro e w1 ⟨rfl, d1⟩)
        go_end0
        exact ⟨⟨_, rfl⟩, p, HP.out, hdone.out, HM.out.ext0 d1.ext, HC.out.trans (Chg.draw d1)⟩
      · have hstep := Lib.hid (up_step HU.out (by rw [HP.out.length_eq]; exact hj) (by omega) (by rw [decide_eq_true_eq] at hless; rw [← hHI.out]; exact hless))
        rw [← hHI.out] at hstep
        have hpm := Lib.hid ((swp_perm p i j (by rw [HP.out.length_eq]; exact hil) (by rw [HP.out.length_eq]; exact hj)).trans HP.out)
        go_wp2_with (go_at_call 138; refine (oLess_any hcrs hj hil hless).mono ?_; rintro e w1 ⟨rfl, d1⟩; have hc1 := (d1.ext (r := none)).cell hc; have m2 := m_val "Swap" _ kSwap hb w1 _ hc1)
        refine (oSwap_any (HO.out.ext0 d1.ext) hil hj).mono ?_; rintro e w2 ⟨⟨v, rfl⟩, o2, g2⟩
        have hM2 := Lib.hid ((HM.out.ext0 d1.ext).swapped (a := none) hc1 o2 g2)
        clear o2 g2 m1 m2
        go_wp2_with fail
        go_roundw
        case rel => exact ⟨i, _, rfl, by omega, hpm.out, hstep.out, hM2.out.1, (HC.out.trans (Chg.draw d1)).trans hM2.out.2⟩
        case measure => simp [intOf]; omega


theorem HeapM.high {w : World} {hb lo hi hi' : Nat} {q : List Nat} (h : HeapM w hb lo hi q) (hl : hi ≤ hi') : HeapM w hb lo hi' q := by
  obtain ⟨a, n, c, h1, h2, h3, h4, h5⟩ := h
  exact ⟨a, n, c, h1, h2, h3, by omega, fun g hg => ⟨by have := (h5 g hg).1; omega, (h5 g hg).2⟩⟩
set_option maxRecDepth 20000 in
set_option maxHeartbeats 2000000 in
theorem heapPush_any {w0 : World} {hb lo x : Nat} {q : List Nat} {w : World} (h : HeapM w hb lo w.heap.size q) (hh : heapOn q.length q) (hx0 : Ext none w0 w) (hlo : w0.heap.size ≤ lo) (hq : q.length + 1 ≤ 1000000) :
    Calls Try.prog 99 #[.iface 92 (.pointer (some ⟨hb, 0, none⟩)), .iface 63 (.int .u64 (x : Nat))] w fun e w' => (∃ v, e = .returned v) ∧ ∃ q', q'.Perm (q ++ [x]) ∧ heapOn q'.length q' ∧ HeapM w' hb lo w'.heap.size q' ∧ Ext none w0 w' := by
  have m1 := m_push hb w
  have hup := Lib.hid (up_start x hh)
  have hlen : (q ++ [x]).length = q.length + 1 := by simp
  have HL := Lib.hid hlen
  clear hlen hh
  go_enter Try.func99, Try.ntmps99
  go_wp2_with (first
    | (go_at_call 140; refine (oPush_any h hx0 hlo hq (Nat.le_refl _)).mono ?_; rintro e w1 ⟨⟨v, rfl⟩, h1, hx1⟩; obtain ⟨a, c, hc, hf, ho, hne, hl, hhb⟩ := h1.cell; rw [HL.out] at hc; have h1' := Lib.hid h1; obtain ⟨n, hn⟩ : ∃ n, n = q.length := ⟨_, rfl⟩; rw [← hn] at hc hq; have m2 := m_val "Len" _ kLen hb w1 _ hc; have hN := Lib.hid hn; clear hn ho hne h h1 m1; have e1 : ((n + 1 : Nat) : Int) - 1 = (n : Int) := (by omega))
    | (go_at_call 100; refine (oLen_any (by omega)).mono ?_; rintro e w' ⟨rfl, rfl⟩))
  have hj1 := Lib.hid (show q.length < (q ++ [x]).length from by rw [HL.out]; omega)
  have hj2 := Lib.hid (show (q ++ [x]).length ≤ 1000000 from by rw [HL.out]; rw [← hN.out]; exact hq)
  refine (heapUp_any (w0 := w0) (j := n) h1'.out (by rw [hN.out]; exact hj1.out) (by rw [hN.out]; exact hup.out) hj2.out).mono ?_; rintro e w2 ⟨⟨v, rfl⟩, q', hp, hh2, hM2, hC2⟩
  go_wp2_with fail
  go_end0
  exact ⟨⟨_, rfl⟩, q', hp, hh2, hM2.high hC2.2.2.2.1, hC2.ext hx1 hlo⟩


set_option maxRecDepth 20000 in
set_option maxHeartbeats 3000000 in
theorem heapDown_any {hb lo hi n : Nat} {q : List Nat} {w : World} (h : HeapM w hb lo hi q) (hn : n ≤ q.length) (hdn : downAt n 0 q) (hq : q.length ≤ 1000000) :
    Calls Try.prog 113 #[.iface 92 (.pointer (some ⟨hb, 0, none⟩)), .int .i64 0, .int .i64 (n : Nat)] w fun e w' => (∃ v, e = .returned v) ∧ ∃ q', q'.Perm q ∧ heapOn n q' ∧ (∀ k, n ≤ k → q'.getD k 0 = q.getD k 0) ∧ HeapM w' hb lo hi q' ∧ Chg lo hi w w' := by
  go_enter Try.func113, Try.ntmps113
  go_wp2_with fail
  go_loopw [7] (fun i wr => ∃ (i' : Nat) (q' : List Nat), i = .int .i64 (i' : Nat) ∧ i' < n + 1 ∧ q'.Perm q ∧ downAt n i' q' ∧ (∀ k, n ≤ k → q'.getD k 0 = q.getD k 0) ∧ HeapM wr hb lo hi q' ∧ Chg lo hi w wr)
    (fun i _ => n + 1 - (intOf i).toNat)
  case atStart => exact ⟨0, q, rfl, by omega, List.Perm.refl _, hdn, fun k _ => rfl, h, Chg.refl _ _ _⟩
  case round =>
    obtain ⟨i, p, rfl, hin, hp, hD, hK, hM, hC⟩ := hrel
    have hl := hp.length_eq
    have HD := Lib.hid hD
    have HP := Lib.hid hp
    have HK := Lib.hid hK
    have HM := Lib.hid hM
    have HC := Lib.hid hC
    have hnq : n ≤ q.length := hn
    obtain ⟨p1, hp1⟩ : ∃ p1 : Nat, p1 = 2 * i + 1 := ⟨_, rfl⟩
    have e1 : 2 * (i : Int) + 1 = (p1 : Int) := by omega
    have HP1 := Lib.hid hp1
    by_cases hleaf : n ≤ p1
    · have hleafI : (n : Int) ≤ (p1 : Int) := by omega
      have hdone := Lib.hid (down_leaf hD (by omega))
      clear hD hp hK hM hC hl hp1
      go_wp2_with fail
      go_ret
      exact ⟨⟨_, rfl⟩, p, HP.out, hdone.out, HK.out, HM.out, HC.out⟩
    · have hleafI : ¬ (n : Int) ≤ (p1 : Int) := by omega
      obtain ⟨r, hr⟩ : ∃ r : Nat, r = p1 + 1 := ⟨_, rfl⟩
      have e2 : (p1 : Int) + 1 = (r : Int) := by omega
      obtain ⟨a, c, hc, hf, ho, hne, hlo, hhb⟩ := hM.cell
      rw [hl] at hc ho hne
      obtain ⟨g, rfl, hg⟩ := crsOwn ho (by omega)
      have HO := Lib.hid ho
      have HCR := Lib.hid ho.crs
      have hiq : i < q.length := by omega
      have hp1q : p1 < q.length := by omega
      have HR := Lib.hid hr
      clear hD hp hK hM hC hl hf ho hne hg hr hp1
      by_cases hrn : r < n
      · have hrnI : (r : Int) < (n : Int) := by omega
        have hrq : r < q.length := by omega
        cases hl1 : decide (p.getD r 0 < p.getD p1 0)
        · skip
          have hmin := Lib.hid (show ∀ k, k = 2 * i + 1 ∨ k = 2 * i + 2 → k < n → p.getD p1 0 ≤ p.getD k 0 from fun k hk hkn => by have hr := HR.out; rw [decide_eq_false_iff_not] at hl1; rcases hk with e | e <;> (rw [e] at hkn ⊢; first | (rw [show 2 * i + 1 = p1 from HP1.out.symm]; exact Nat.le_refl _) | (rw [show 2 * i + 2 = r from by omega]; omega)))
          have hJ12 := Lib.hid (show p1 = 2 * i + 1 ∨ p1 = 2 * i + 2 from by have := HR.out; have := HP1.out; omega)
          have hjn : p1 < n := by omega
          have m1 := m_val "Less" _ kLess hb wr _ hc
          go_wp2_with fail
          refine (oLess_any HCR.out hrq hp1q hl1).mono ?_; rintro e wa ⟨rfl, da⟩
          have hc2 := (da.ext (r := none)).cell hc
          have m2 := m_val "Less" _ kLess hb wa _ hc2
          have hcrs2 := Lib.hid (HCR.out.ext da.ext)
          have HM2 := Lib.hid (HM.out.ext0 da.ext)
          have HO2 := Lib.hid (HO.out.ext0 da.ext)
          have HC2 := Lib.hid (HC.out.trans (Chg.draw da))
          clear da hc m1
          cases hl2 : decide (p.getD p1 0 < p.getD i 0)
          · have hdone := Lib.hid (down_stop HD.out hmin.out (by rw [decide_eq_false_iff_not] at hl2; omega))
            go_wp2_with fail
            refine (oLess_any hcrs2.out hp1q hiq hl2).mono ?_; rintro e w1 ⟨rfl, d1⟩
            have hc1 := (d1.ext (r := none)).cell hc2
            have HM1 := Lib.hid (HM2.out.ext0 d1.ext)
            have HO1 := Lib.hid (HO2.out.ext0 d1.ext)
            have HC1 := Lib.hid (HC2.out.trans (Chg.draw d1))
            clear d1 hc2
            go_wp2_with fail
            go_ret
            exact ⟨⟨_, rfl⟩, p, HP.out, hdone.out, HK.out, HM1.out, HC1.out⟩
          · have hstep := Lib.hid (down_step HD.out (by rw [HP.out.length_eq]; exact hnq) hJ12.out hjn hmin.out (by rw [decide_eq_true_eq] at hl2; exact hl2))
            have hpm := Lib.hid ((swp_perm p i p1 (by rw [HP.out.length_eq]; exact hiq) (by rw [HP.out.length_eq]; omega)).trans HP.out)
            have hk := Lib.hid (show ∀ k, n ≤ k → (swp p i p1).getD k 0 = q.getD k 0 from fun k hk => by rw [swp_get p i p1 k (by rw [HP.out.length_eq]; exact hiq) (by rw [HP.out.length_eq]; omega), if_neg (by omega), if_neg (by omega)]; exact HK.out k hk)
            have hij : i < p1 := by have := HR.out; have := HP1.out; omega
            go_wp2_with fail
            refine (oLess_any hcrs2.out hp1q hiq hl2).mono ?_; rintro e w1 ⟨rfl, d1⟩
            have hc1 := (d1.ext (r := none)).cell hc2
            have HM1 := Lib.hid (HM2.out.ext0 d1.ext)
            have HO1 := Lib.hid (HO2.out.ext0 d1.ext)
            have HC1 := Lib.hid (HC2.out.trans (Chg.draw d1))
            clear d1 hc2
            have m9 := m_val "Swap" _ kSwap hb w1 _ hc1
            go_wp2_with fail
            refine (oSwap_any HO1.out hiq hp1q).mono ?_; rintro e w2 ⟨⟨v, rfl⟩, o2, g2⟩
            have hM2 := Lib.hid (HM1.out.swapped (a := none) hc1 o2 g2)
            clear o2 g2 m9
            go_wp2_with fail
            go_roundw
            case rel => exact ⟨p1, _, rfl, by omega, hpm.out, hstep.out, hk.out, hM2.out.1, HC1.out.trans hM2.out.2⟩
            case measure => simp [intOf]; omega
        · skip
          have hmin := Lib.hid (show ∀ k, k = 2 * i + 1 ∨ k = 2 * i + 2 → k < n → p.getD r 0 ≤ p.getD k 0 from fun k hk hkn => by have hr := HR.out; rw [decide_eq_true_eq] at hl1; rcases hk with e | e <;> (rw [e] at hkn ⊢; first | (rw [show 2 * i + 1 = p1 from HP1.out.symm]; omega) | (rw [show 2 * i + 2 = r from by omega]; exact Nat.le_refl _)))
          have hJ12 := Lib.hid (show r = 2 * i + 1 ∨ r = 2 * i + 2 from by have := HR.out; have := HP1.out; omega)
          have hjn : r < n := by omega
          have m1 := m_val "Less" _ kLess hb wr _ hc
          go_wp2_with fail
          refine (oLess_any HCR.out hrq hp1q hl1).mono ?_; rintro e wa ⟨rfl, da⟩
          have hc2 := (da.ext (r := none)).cell hc
          have m2 := m_val "Less" _ kLess hb wa _ hc2
          have hcrs2 := Lib.hid (HCR.out.ext da.ext)
          have HM2 := Lib.hid (HM.out.ext0 da.ext)
          have HO2 := Lib.hid (HO.out.ext0 da.ext)
          have HC2 := Lib.hid (HC.out.trans (Chg.draw da))
          clear da hc m1
          cases hl2 : decide (p.getD r 0 < p.getD i 0)
          · have hdone := Lib.hid (down_stop HD.out hmin.out (by rw [decide_eq_false_iff_not] at hl2; omega))
            go_wp2_with fail
            refine (oLess_any hcrs2.out hrq hiq hl2).mono ?_; rintro e w1 ⟨rfl, d1⟩
            have hc1 := (d1.ext (r := none)).cell hc2
            have HM1 := Lib.hid (HM2.out.ext0 d1.ext)
            have HO1 := Lib.hid (HO2.out.ext0 d1.ext)
            have HC1 := Lib.hid (HC2.out.trans (Chg.draw d1))
            clear d1 hc2
            go_wp2_with fail
            go_ret
            exact ⟨⟨_, rfl⟩, p, HP.out, hdone.out, HK.out, HM1.out, HC1.out⟩
          · have hstep := Lib.hid (down_step HD.out (by rw [HP.out.length_eq]; exact hnq) hJ12.out hjn hmin.out (by rw [decide_eq_true_eq] at hl2; exact hl2))
            have hpm := Lib.hid ((swp_perm p i r (by rw [HP.out.length_eq]; exact hiq) (by rw [HP.out.length_eq]; omega)).trans HP.out)
            have hk := Lib.hid (show ∀ k, n ≤ k → (swp p i r).getD k 0 = q.getD k 0 from fun k hk => by rw [swp_get p i r k (by rw [HP.out.length_eq]; exact hiq) (by rw [HP.out.length_eq]; omega), if_neg (by omega), if_neg (by omega)]; exact HK.out k hk)
            have hij : i < r := by have := HR.out; have := HP1.out; omega
            go_wp2_with fail
            refine (oLess_any hcrs2.out hrq hiq hl2).mono ?_; rintro e w1 ⟨rfl, d1⟩
            have hc1 := (d1.ext (r := none)).cell hc2
            have HM1 := Lib.hid (HM2.out.ext0 d1.ext)
            have HO1 := Lib.hid (HO2.out.ext0 d1.ext)
            have HC1 := Lib.hid (HC2.out.trans (Chg.draw d1))
            clear d1 hc2
            have m9 := m_val "Swap" _ kSwap hb w1 _ hc1
            go_wp2_with fail
            refine (oSwap_any HO1.out hiq hrq).mono ?_; rintro e w2 ⟨⟨v, rfl⟩, o2, g2⟩
            have hM2 := Lib.hid (HM1.out.swapped (a := none) hc1 o2 g2)
            clear o2 g2 m9
            go_wp2_with fail
            go_roundw
            case rel => exact ⟨r, _, rfl, by omega, hpm.out, hstep.out, hk.out, hM2.out.1, HC1.out.trans hM2.out.2⟩
            case measure => simp [intOf]; omega
      · have hrnI : ¬ (r : Int) < (n : Int) := by omega
        have hrq : r ≤ q.length := by have := HR.out; omega
        have hmin := Lib.hid (show ∀ k, k = 2 * i + 1 ∨ k = 2 * i + 2 → k < n → p.getD p1 0 ≤ p.getD k 0 from fun k hk hkn => by have hr := HR.out; have := HP1.out; rw [show k = p1 from by omega]; exact Nat.le_refl _)
        have hJ12 := Lib.hid (show p1 = 2 * i + 1 ∨ p1 = 2 * i + 2 from by have := HR.out; have := HP1.out; omega)
        have hjn : p1 < n := by omega
        have m2 := m_val "Less" _ kLess hb wr _ hc
        have hc2 := hc
        have hcrs2 := HCR
        have HM2 := HM
        have HO2 := HO
        have HC2 := HC
        clear hc
        cases hl2 : decide (p.getD p1 0 < p.getD i 0)
        · have hdone := Lib.hid (down_stop HD.out hmin.out (by rw [decide_eq_false_iff_not] at hl2; omega))
          go_wp2_with fail
          refine (oLess_any hcrs2.out hp1q hiq hl2).mono ?_; rintro e w1 ⟨rfl, d1⟩
          have hc1 := (d1.ext (r := none)).cell hc2
          have HM1 := Lib.hid (HM2.out.ext0 d1.ext)
          have HO1 := Lib.hid (HO2.out.ext0 d1.ext)
          have HC1 := Lib.hid (HC2.out.trans (Chg.draw d1))
          clear d1 hc2
          go_wp2_with fail
          go_ret
          exact ⟨⟨_, rfl⟩, p, HP.out, hdone.out, HK.out, HM1.out, HC1.out⟩
        · have hstep := Lib.hid (down_step HD.out (by rw [HP.out.length_eq]; exact hnq) hJ12.out hjn hmin.out (by rw [decide_eq_true_eq] at hl2; exact hl2))
          have hpm := Lib.hid ((swp_perm p i p1 (by rw [HP.out.length_eq]; exact hiq) (by rw [HP.out.length_eq]; omega)).trans HP.out)
          have hk := Lib.hid (show ∀ k, n ≤ k → (swp p i p1).getD k 0 = q.getD k 0 from fun k hk => by rw [swp_get p i p1 k (by rw [HP.out.length_eq]; exact hiq) (by rw [HP.out.length_eq]; omega), if_neg (by omega), if_neg (by omega)]; exact HK.out k hk)
          have hij : i < p1 := by have := HR.out; have := HP1.out; omega
          go_wp2_with fail
          refine (oLess_any hcrs2.out hp1q hiq hl2).mono ?_; rintro e w1 ⟨rfl, d1⟩
          have hc1 := (d1.ext (r := none)).cell hc2
          have HM1 := Lib.hid (HM2.out.ext0 d1.ext)
          have HO1 := Lib.hid (HO2.out.ext0 d1.ext)
          have HC1 := Lib.hid (HC2.out.trans (Chg.draw d1))
          clear d1 hc2
          have m9 := m_val "Swap" _ kSwap hb w1 _ hc1
          go_wp2_with fail
          refine (oSwap_any HO1.out hiq hp1q).mono ?_; rintro e w2 ⟨⟨v, rfl⟩, o2, g2⟩
          have hM2 := Lib.hid (HM1.out.swapped (a := none) hc1 o2 g2)
          clear o2 g2 m9
          go_wp2_with fail
          go_roundw
          case rel => exact ⟨p1, _, rfl, by omega, hpm.out, hstep.out, hk.out, hM2.out.1, HC1.out.trans hM2.out.2⟩
          case measure => simp [intOf]; omega


set_option maxRecDepth 20000 in
set_option maxHeartbeats 3000000 in
theorem heapPop_any {hb lo hi n : Nat} {q : List Nat} {w : World} (h : HeapM w hb lo hi q) (hl : q.length = n + 1) (hh : heapOn q.length q) (hq : q.length ≤ 1000000) :
    Calls Try.prog 101 #[.iface 92 (.pointer (some ⟨hb, 0, none⟩))] w fun e w' => ∃ (x : Nat) (q' : List Nat), e = .returned (.iface 63 (.int .u64 (x : Nat))) ∧ (q' ++ [x]).Perm q ∧ heapOn q'.length q' ∧ q'.length = n ∧ (∀ y ∈ q, x ≤ y) ∧ HeapM w' hb lo hi q' ∧ Chg lo hi w w' := by
  have H := Lib.hid h
  obtain ⟨a, c, hc, hf, ho, hne, hlo, hhb⟩ := h.cell
  rw [hl] at hc ho hne
  obtain ⟨g, rfl, hg⟩ := crsOwn ho (by omega)
  have HO := Lib.hid ho
  have HL := Lib.hid hl
  have hst := Lib.hid (down_start hl hh)
  have hpm := Lib.hid (swp_perm q 0 n (by omega) (by omega))
  have hlast := Lib.hid (show (swp q 0 n).getD n 0 = q.getD 0 0 from by rw [swp_get q 0 n n (by omega) (by omega), if_pos rfl])
  have hleast := Lib.hid (heap_least hh)
  have hq2 : n + 1 ≤ 1000000 := by omega
  clear ho hl hh h hne hf hq
  have e1 : ((n + 1 : Nat) : Int) - 1 = (n : Int) := by omega
  have m1 := m_val "Len" _ kLen hb w _ hc
  have m2 := m_val "Swap" _ kSwap hb w _ hc
  go_enter Try.func101, Try.ntmps101
  go_wp2_with (go_at_call 100; refine (oLen_any (by omega)).mono ?_; rintro e w' ⟨rfl, rfl⟩)
  rw [show (0 : Int) = ((0 : Nat) : Int) from rfl]
  refine (oSwap_any HO.out (by omega) (by omega)).mono ?_; rintro e w2 ⟨⟨v, rfl⟩, o2, g2⟩
  have hM2 := Lib.hid (H.out.swapped (a := none) hc o2 g2)
  clear o2 g2 m1 m2 hc
  go_wp2_with fail
  refine (heapDown_any hM2.out.1 (by rw [swp_len, HL.out]; omega) hst.out (by rw [swp_len, HL.out]; exact hq2)).mono ?_; rintro e w3 ⟨⟨v, rfl⟩, p, hp, hh3, hk3, hM3, hC3⟩
  have hlp := Lib.hid (show p.length = n + 1 from by rw [hp.length_eq, swp_len, HL.out])
  have HP := Lib.hid (hp.trans hpm.out)
  have HH := Lib.hid hh3
  have hx := Lib.hid (show p.getD n 0 = q.getD 0 0 from by rw [hk3 n (Nat.le_refl _), hlast.out])
  have HM := Lib.hid hM3
  have HC := Lib.hid (hM2.out.2.trans hC3)
  clear hp hh3 hk3 hM3 hC3
  have m3 := m_pop hb w3
  go_wp2_with fail
  refine (oPop_any HM.out hlp.out).mono ?_; rintro e w4 ⟨rfl, hM4, hC4⟩
  have HM4 := Lib.hid hM4
  have HC4 := Lib.hid (HC.out.trans hC4)
  clear hM4 hC4 m3
  go_wp2_with fail
  go_ret
  refine ⟨p.getD n 0, p.take n, rfl, popped hlp.out HP.out, heap_take HH.out (by rw [hlp.out]; omega), by rw [List.length_take, hlp.out]; omega, fun y hy => by rw [hx.out]; exact hleast.out y hy, HM4.out, HC4.out⟩

theorem ta_crew2 (x : Nat) (w : World) : (Instr.typeAssert (.iface 63 (.int .u64 (x : Nat))) 20 63 true).run Try.prog w = .ok (.tuple #[.int .u64 (x : Nat), .bool true]) w := by kernel_rfl

/-- how many are in the heap -/
def heapLen (hb : Nat) (w : World) : Nat := match w.cell? ⟨hb, 0, none⟩ with | some (.slice _ n _) => n | _ => 0
theorem HeapM.many {w : World} {hb lo hi : Nat} {q : List Nat} (h : HeapM w hb lo hi q) : heapLen hb w = q.length := by
  obtain ⟨a, c, hc, _⟩ := h.cell
  unfold heapLen; rw [hc]
theorem HeapM.made (w : World) : HeapM ((w.alloc (.cells #[] 63)).alloc (.cells #[.slice (some ⟨w.heap.size, 0, none⟩) 0 0] 93)) (w.heap.size + 1) w.heap.size (w.heap.size + 2) [] := by
  have h1 : OwnC (w.alloc (.cells #[] 63)) w.heap.size (some ⟨w.heap.size, 0, none⟩) 0 0 [] := World.ownsRow_made w #[] 0 (Nat.le_refl _) (by simp [maxLen]) rfl
  refine ⟨_, 0, 0, ?_, h1.ext0 ((Ext.refl none _).alloc _), by omega, by omega, fun g hg => ?_⟩
  · have := heap_alloc_new (w.alloc (.cells #[] 63)) (.cells #[.slice (some ⟨w.heap.size, 0, none⟩) 0 0] 93)
    rw [World.size_alloc] at this; exact this
  · have : w.heap.size = g := by simpa [Value.ownBlock] using hg
    omega
theorem out_lt {q out left : List Nat} (h : MinI q out left) (hq : ∀ x ∈ q, x < 64) : ∀ x ∈ out, x < 64 := fun x hx => hq x (h.2.1 x hx)

set_option maxRecDepth 20000 in
set_option maxHeartbeats 4000000 in
theorem minimal_any {a : Option Addr} {n cp : Nat} {q : List Nat} {w : World} (h : Crs w a n q) (hq : ∀ x ∈ q, x < 64) (hn : n ≤ 900000) :
    Calls Try.prog 64 #[.slice a n cp] w fun e w' => ∃ a n c, e = .returned (.slice a n c) ∧ OwnC w' w.heap.size a n c (minOf (up q)) ∧ Ext none w w' := by
  have H := Lib.hid h
  have HQ := Lib.hid hq
  have hlq := Lib.hid h.len
  have hmx := h.max
  clear h hq
  obtain ⟨hb, hhb⟩ : ∃ hb, hb = w.heap.size + 1 := ⟨_, rfl⟩
  have hst := Lib.hid (show HeapM ((w.alloc (.cells #[] 63)).alloc (.cells #[.slice (some ⟨w.heap.size, 0, none⟩) 0 0] 93)) hb w.heap.size (w.heap.size + 2) [] from by rw [hhb]; exact HeapM.made w)
  have hE0 := Lib.hid (show Ext none w ((w.alloc (.cells #[] 63)).alloc (.cells #[.slice (some ⟨w.heap.size, 0, none⟩) 0 0] 93)) from ((Ext.refl _ _).alloc _).alloc _)
  have hsz := Lib.hid (show w.heap.size + 2 = ((w.alloc (.cells #[] 63)).alloc (.cells #[.slice (some ⟨w.heap.size, 0, none⟩) 0 0] 93)).heap.size from by simp)
  have HHB := Lib.hid hhb
  clear hhb
  go_enter Try.func64, Try.ntmps64
  go_wp2_with fail
  rw [← HHB.out]
  go_loopw [13] (fun i wr => ∃ (k : Nat) (p : List Nat), k ≤ n ∧ i = .int .i64 (k : Nat) ∧ HeapM wr hb w.heap.size wr.heap.size p ∧ heapOn p.length p ∧ p.Perm (q.take k) ∧ Ext none w wr)
    (fun i _ => n - (intOf i).toNat)
  case atStart => exact ⟨0, [], by omega, rfl, hsz.out ▸ hst.out, heap_nil, List.Perm.refl _, hE0.out⟩
  case round =>
    obtain ⟨k, p, hk, rfl, hM, hH, hP, hE⟩ := hrel
    have HM := Lib.hid hM
    have HH := Lib.hid hH
    have HP := Lib.hid hP
    have hpl := Lib.hid (show p.length = k from by rw [hP.length_eq, List.length_take, hlq.out]; omega)
    by_cases hlt : k < n
    · have hltI : (k : Int) < (n : Int) := by omega
      have hkl : k < q.length := by rw [hlq.out]; exact hlt
      obtain ⟨b, off, rfl, hc⟩ := (H.out.ext hE).cell hlt
      obtain ⟨x, hx⟩ : ∃ x, x = q.getD k 0 := ⟨_, rfl⟩
      rw [← hx] at hc
      have HX := Lib.hid hx
      clear hM hH hP hx
      go_wp2_with fail
      refine (heapPush_any (x := x) HM.out HH.out hE (Nat.le_refl _) (by rw [hpl.out]; omega)).mono ?_; rintro e w2 ⟨⟨v, rfl⟩, p2, hp2, hh2, hM2, hE2⟩
      have hp3 := Lib.hid (show p2.Perm (q.take (k + 1)) from by rw [snoc_take q 0 k hkl, ← HX.out]; exact hp2.trans (List.Perm.append_right _ HP.out))
      have HH2 := Lib.hid hh2
      have HM2 := Lib.hid hM2
      clear hp2 hh2 hM2 hE
      go_wp2_with fail
      go_roundw
      case rel => exact ⟨k + 1, p2, by omega, by go_num, HM2.out, HH2.out, hp3.out, hE2⟩
      case measure => simp [intOf]; omega
    · obtain rfl : k = n := by omega
      have hall := Lib.hid (show q.take k = q from List.take_of_length_le (by rw [hlq.out]; exact Nat.le_refl _))
      have hmi := Lib.hid (MinI.start q (hall.out ▸ hP))
      have hHs := Lib.hid hE.size
      clear hM hH hP
      go_wp2_with fail
      obtain ⟨w9, hw9⟩ : ∃ x, x = wr := ⟨_, rfl⟩
      rw [← hw9] at HM hE hHs ⊢
      clear hw9
      go_loopw [6] (fun v wr => ∃ (p out : List Nat) (a2 : Option Addr) (n2 c2 : Nat), v = .slice a2 n2 c2 ∧ OwnC wr w9.heap.size a2 n2 c2 out ∧ HeapM wr hb w.heap.size w9.heap.size p ∧ heapOn p.length p ∧ MinI q out p ∧ p.length + n2 ≤ k ∧ Ext none w wr ∧ w9.heap.size ≤ wr.heap.size)
        (fun _ wr => heapLen hb wr)
      case atStart => exact ⟨p, [], none, 0, 0, rfl, OwnC.nil _ _, HM.out, HH.out, hmi.out, by rw [hpl.out]; exact Nat.le_refl _, hE, Nat.le_refl _⟩
      case round =>
        obtain ⟨p, out, a2, n2, c2, rfl, hO, hM, hH, hI, hlen, hE2, hS⟩ := hrel
        have HO := Lib.hid hO
        have HI := Lib.hid hI
        have HH2 := Lib.hid hH
        have HM2 := Lib.hid hM
        have hmany := Lib.hid hM.many
        obtain ⟨a3, c3, hc3, _⟩ := hM.cell
        by_cases h0 : p.length = 0
        · have hp0 : p = [] := List.eq_nil_of_length_eq_zero h0
          subst hp0
          have hfin := Lib.hid (MinI.done HI.out HQ.out)
          have hc3 : wr.cell? ⟨hb, 0, none⟩ = some (.slice a3 0 c3) := hc3
          clear hM hH hI h0 hO
          go_wp2_with (go_at_call 100; refine (oLen_any (by omega)).mono ?_; rintro e w' ⟨rfl, rfl⟩)
          go_ret
          exact ⟨a2, n2, c2, rfl, by rw [← hfin.out]; exact HO.out.mono hHs.out, hE2⟩
        · obtain ⟨m, hm⟩ : ∃ m, p.length = m + 1 := ⟨p.length - 1, by omega⟩
          rw [hm] at hc3 hlen
          have HL := Lib.hid hm
          have hpos : (0 : Int) < ((m + 1 : Nat) : Int) := by omega
          clear hM hH hI hm h0 hO
          have hm3 : m + 1 ≤ 1000000 := by omega
          go_wp2_with (go_at_call 100; refine (oLen_any (by omega)).mono ?_; rintro e w' ⟨rfl, rfl⟩)
          refine (heapPop_any HM2.out HL.out HH2.out (by rw [HL.out]; omega)).mono ?_; rintro e w4 ⟨x, p', rfl, hperm, hh4, hl4, hle4, hM4, hC4⟩
          have HM4 := Lib.hid hM4
          have HH4 := Lib.hid hh4
          have HP4 := Lib.hid hperm
          have HL4 := Lib.hid hl4
          have HLE := Lib.hid hle4
          have HO4 := Lib.hid (show OwnC w4 w9.heap.size a2 n2 c2 out from Own.same HO.out (fun g hg => hC4.2.2.2.2 g (World.ownsRow.lt HO.out g hg).2 (.inr (World.ownsRow.lt HO.out g hg).1)))
          have hE4 := Lib.hid (hC4.ext hE2 (Nat.le_refl _))
          have hS4 := Lib.hid (show w9.heap.size ≤ w4.heap.size from Nat.le_trans hS hC4.2.2.2.1)
          have hxq := Lib.hid (show x ∈ q from HI.out.2.2.1 x (HP4.out.mem_iff.1 (by simp)))
          have hx64 := HQ.out x hxq.out
          have hcr := Lib.hid (OwnC.crs HO4.out)
          have ho64 := Lib.hid (out_lt HI.out HQ.out)
          have hmany4 := Lib.hid HM4.out.many
          clear hM4 hh4 hperm hl4 hle4 hC4 hc3 hE2 hS
          have t2 := ta_crew2
          cases hu : up out x
          · have hnx := Lib.hid (HI.out.keep HP4.out HLE.out hu)
            go_wp2_with fail
            refine (reached_is hcr.out ho64.out hx64 hu).mono ?_; rintro e w_ ⟨rfl, rfl⟩
            go_wp2_with (at_builtin; refine app_crew 56 Try.underlying56 _ rfl _ _ rfl w9.heap.size a2 n2 c2 _ HO4.out x rfl rfl (by omega) hS4.out ?_; intro g c' w5 ho5 hg5)
            have hM5 := Lib.hid (HM4.out.same (w' := w5) (fun g _ hg hlt => hg5.block g hlt (fun e => by have := (World.ownsRow.lt HO4.out g e.symm).1; omega)))
            go_roundw
            case rel => exact ⟨p', out ++ [x], _, n2 + 1, c', rfl, ho5, hM5.out, HH4.out, hnx.out, by rw [HL4.out]; omega, hE4.out.grown hg5 (fun j hj => .inl (by have := (World.ownsRow.lt HO4.out j hj).1; have := hHs.out; omega)), Nat.le_trans hS4.out hg5.size⟩
            case measure => rw [hM5.out.many, hmany.out, HL4.out, HL.out]; omega
          · have hnx := Lib.hid (HI.out.skip HP4.out hu)
            go_wp2_with fail
            refine (reached_is hcr.out ho64.out hx64 hu).mono ?_; rintro e w_ ⟨rfl, rfl⟩
            go_wp2_with fail
            go_roundw
            case rel => exact ⟨p', out, a2, n2, c2, rfl, HO4.out, HM4.out, HH4.out, hnx.out, by rw [HL4.out]; omega, hE4.out, hS4.out⟩
            case measure => rw [hmany4.out, hmany.out, HL4.out, HL.out]; omega
end Go.Proofs.Ytfccceogmhjljaa
