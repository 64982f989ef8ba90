/- The heap of package impl and container/heap over it. Conditions: each lemma's own. -/
import Derived.Test.YtnlmcbilhfmenaaC9
import Derived.Test.YtnlmcbilhfmenaaH1
import Derived.Test.YtnlmcbilhfmenaaW4
namespace Go.Proofs.Ytnlmcbilhfmenaa
open Go.RowKit
set_option linter.unusedVariables false

/-- A heap of masks behind a pointer: its cell in block hb, its row in another block, both from lo on and below hi. -/
def HeapM (w : World) (hb lo hi : Nat) (q : List Nat) : Prop :=
  ∃ a n c, w.heap[hb]? = some (.cells #[.slice a n c] 83 (0, 0)) ∧ OwnC w lo a n c q ∧ lo ≤ hb ∧ hb < hi ∧ ∀ g, (Value.slice a n c).ownBlock = some g → g < hi ∧ g ≠ hb

set_option maxRecDepth 20000 in
set_option maxHeartbeats 400000 in
theorem oLen_any {a : Option Addr} {n c : Nat} {w : World} (hn : n ≤ 9223372036854775807) :
    Calls Try.prog 92 #[.slice a n c] w fun e w' => e = .returned (.int .i64 n) ∧ w = w' := by
  go_enter Try.func92, Try.ntmps92
  go_wp2_with fail
  go_ret
  exact ⟨rfl, rfl⟩
set_option maxRecDepth 20000 in
set_option maxHeartbeats 1000000 in
theorem oLess_any {a : Option Addr} {n c : Nat} {q : List Nat} {i j : Nat} {b : Bool} {w : World} (h : Crs w a n q) (hi : i < n) (hj : j < n) (hb : decide (q.getD i 0 < q.getD j 0) = b) :
    Calls Try.prog 125 #[.slice a n c, .int .i64 i, .int .i64 j] w fun e w' => e = .returned (.bool b) ∧ Dr w w' := by
  obtain ⟨b1, off, rfl, hc⟩ := h.cell hi
  have hc2 := h.cellAt hj
  have hm := h.max
  obtain ⟨x, hx⟩ : ∃ x, x = q.getD i 0 := ⟨_, rfl⟩
  obtain ⟨y, hy⟩ : ∃ y, y = q.getD j 0 := ⟨_, rfl⟩
  rw [← hx] at hc hb
  rw [← hy] at hc2 hb
  clear hx hy
  have hiI : (i : Int) < (n : Int) := by omega
  have hjI : (j : Int) < (n : Int) := by omega
  have hB := Lib.hid hb
  clear hb
  go_enter Try.func125, Try.ntmps125
  go_wp2_with fail
  go_quiet (fail)
  go_wp2_with fail
  go_ret
  exact ⟨by rw [← hB.out]; rfl, ⟨_, rfl⟩⟩

theorem crsOwn {w : World} {lo : Nat} {a : Option Addr} {n c : Nat} {q : List Nat} (h : OwnC w lo a n c q) (hn : 0 < n) : ∃ g, a = some ⟨g, 0, none⟩ ∧ lo ≤ g := by
  rcases h.2 with ⟨hv, h0⟩ | ⟨g, cap, cur, hv, hB, _⟩
  · omega
  · injection hv with ha; exact ⟨g, ha, hB⟩
theorem OwnC.set {w : World} {B g n c : Nat} {q : List Nat} (h : OwnC w B (some ⟨g, 0, none⟩) n c q) (j : Nat) (u : Nat) :
    OwnC (w.setCell ⟨g, j, none⟩ (.int .u64 (u : Nat))) B (some ⟨g, 0, none⟩) n c (q.set j u) ∧ w.grownBy (w.setCell ⟨g, j, none⟩ (.int .u64 (u : Nat))) (some g) := by
  have := World.ownsRow.stored (h : w.ownsRow B 54 1 (.slice (some ⟨g, 0, none⟩) n c) n (q.map (fun c => Value.int .u64 (c : Nat)))) j (.int .u64 (u : Nat))
  exact ⟨by unfold OwnC Own; rw [List.map_set]; exact this.1, this.2⟩
set_option maxRecDepth 20000 in
set_option maxHeartbeats 2000000 in
theorem oSwap_any {lo g n c : Nat} {q : List Nat} {i j : Nat} {w : World} (h : OwnC w lo (some ⟨g, 0, none⟩) n c q) (hi : i < n) (hj : j < n) :
    Calls Try.prog 128 #[.slice (some ⟨g, 0, none⟩) n c, .int .i64 i, .int .i64 j] w fun e w' => (∃ v, e = .returned v) ∧ OwnC w' lo (some ⟨g, 0, none⟩) n c (swp q i j) ∧ w.grownBy w' (some g) := by
  have hc := h.crs.cellAt hi
  have hc2 := h.crs.cellAt hj
  have hm := h.crs.max
  have hf1 : w.frozen? ⟨g, i, none⟩ = false := World.ownsRow.frozenAt (h : w.ownsRow lo 54 1 (.slice (some ⟨g, 0, none⟩) n c) n (q.map (fun c => Value.int .u64 (c : Nat)))) i
  have hf2 : w.frozen? ⟨g, j, none⟩ = false := World.ownsRow.frozenAt (h : w.ownsRow lo 54 1 (.slice (some ⟨g, 0, none⟩) n c) n (q.map (fun c => Value.int .u64 (c : Nat)))) j
  rw [Nat.zero_add] at hc hc2
  obtain ⟨x, hx⟩ : ∃ x, x = q.getD i 0 := ⟨_, rfl⟩
  obtain ⟨y, hy⟩ : ∃ y, y = q.getD j 0 := ⟨_, rfl⟩
  rw [← hx] at hc
  rw [← hy] at hc2
  have hX := Lib.hid hx
  have hY := Lib.hid hy
  clear hx hy
  have hiI : (i : Int) < (n : Int) := by omega
  have hjI : (j : Int) < (n : Int) := by omega
  have hs1 := h.set i y
  have hc3 := hs1.1.crs.cellAt hj
  rw [Nat.zero_add] at hc3
  obtain ⟨z, hz⟩ : ∃ z, z = (q.set i y).getD j 0 := ⟨_, rfl⟩
  rw [← hz] at hc3
  have hs2 := Lib.hid (hs1.1.set j x)
  have hs1 := Lib.hid hs1.2
  have hsw := Lib.hid (show (q.set i y).set j x = swp q i j from by unfold swp; rw [hX.out, hY.out])
  clear hz
  go_enter Try.func128, Try.ntmps128
  go_wp2_with fail
  go_region
  all_goals
    go_end0
    exact ⟨⟨_, rfl⟩, by rw [← hsw.out]; exact Own.ext0 hs2.out.1 ((Ext.refl none _).drew), World.grownBy.trans (World.grownBy.trans hs1.out hs2.out.2) ⟨rfl, rfl, rfl, Nat.le_refl _, fun _ _ _ => rfl⟩⟩

theorem pushed {w : World} {hb : Nat} {v : Value} {t : TypeId} (h : ∃ u, w.heap[hb]? = some (.cells #[u] t (0, 0))) : (w.setCell ⟨hb, 0, none⟩ v).heap[hb]? = some (.cells #[v] t (0, 0)) := by
  obtain ⟨u, h⟩ := h
  simp [World.setCell, Array.getElem?_modify, h]
theorem HeapM.cell {w : World} {hb lo hi : Nat} {q : List Nat} (h : HeapM w hb lo hi q) : ∃ a c, w.cell? ⟨hb, 0, none⟩ = some (.slice a q.length c) ∧ w.frozen? ⟨hb, 0, none⟩ = false ∧ OwnC w lo a q.length c q ∧ (∀ g, (Value.slice a q.length c).ownBlock = some g → g < hi ∧ g ≠ hb) ∧ lo ≤ hb ∧ hb < hi := by
  obtain ⟨a, n, c, h1, h2, h3, h4, h5⟩ := h
  have hl := h2.len
  subst hl
  exact ⟨a, c, by simp [World.cell?, h1], by simp [World.frozen?, h1], h2, h5, h3, h4⟩

/-- 'q = append(q, c)', with where the row lies then -/
theorem app_crew_at (t : TypeId) (ht : Try.prog.underlying t = some (.slice 54)) (w : World) {ops : Array Oper} {rest : List Oper} {o : Oper} {a : Act} {Q : Exit → Act → World → Prop} (hgd : o.guard = none) (s x : Operand)
    (ho : o.op = .call { callee := .builtin .append, args := #[s, x], argTypes := #[t, t] })
    (B : Nat) (ad : Option Addr) (n c : Nat) (q : List Nat) (hown : OwnC w B ad n c q) (y : Nat) (hs : a.eval s = .slice ad n c)
    (hx : a.eval x = .slice (some ⟨w.heap.size, 0, none⟩) 1 1) (hlen : n + 1 ≤ 1000000) (hB : B ≤ w.heap.size)
    (h : ∀ g c' w', OwnC w' B (some ⟨g, 0, none⟩) (n + 1) c' (q ++ [y]) → w.grownBy w' (Value.slice ad n c).ownBlock → (some g = (Value.slice ad n c).ownBlock ∨ g = w.heap.size + 1) → wpList Try.prog ops Q rest (a.put o.dst (.slice (some ⟨g, 0, none⟩) (n + 1) c')) w') :
    wpList Try.prog ops Q (o :: rest) a (w.alloc (.cells #[.int .u64 (y : Nat)] 54)) := by
  obtain ⟨i0, hi, hz0, hz1, hz2⟩ := info_parts crewInfo
  refine append1_at w hgd s x t ho B 54 i0 (.int .u64 0) 8 ht hi hz0 hz1 hz2 rfl ad n c _ hs hown (.int .u64 (y : Nat)) hx rfl hlen (by decide) hB ?_
  intro g c' w' h1 h2 h3
  exact h g c' w' (by simpa [OwnC, List.map_append] using h1) h2 h3
theorem ta_crew (x : Nat) (w : World) : (Instr.typeAssert (.iface 54 (.int .u64 (x : Nat))) 20 54 true).run Try.prog w = .ok (.tuple #[.int .u64 (x : Nat), .bool true]) w := by kernel_rfl
set_option maxRecDepth 20000 in
set_option maxHeartbeats 2000000 in
theorem oPush_any {w0 : World} {hb lo hi x : Nat} {q : List Nat} {w : World} (h : HeapM w hb lo hi q) (hx0 : Ext none w0 w) (hlo : w0.heap.size ≤ lo) (hq : q.length + 1 ≤ 1000000) (hhi : hi ≤ w.heap.size) :
    Calls Try.prog 127 #[.pointer (some ⟨hb, 0, none⟩), .iface 54 (.int .u64 (x : Nat))] w fun e w' => (∃ v, e = .returned v) ∧ HeapM w' hb lo w'.heap.size (q ++ [x]) ∧ Ext none w0 w' := by
  obtain ⟨a, c, hc, hf, ho, hne, hl, hhb⟩ := h.cell
  go_enter Try.func127, Try.ntmps127
  have hnb := Lib.hid (show some hb ≠ (Value.slice a q.length c).ownBlock from fun e => (hne hb e.symm).2 rfl)
  have hblk := Lib.hid (show ∀ w1, w.grownBy w1 (Value.slice a q.length c).ownBlock → ∃ u, w1.heap[hb]? = some (.cells #[u] 83 (0, 0)) from fun w1 hg => by
    obtain ⟨a', n', c', h1, _⟩ := h
    exact ⟨_, (hg.block hb (by omega) hnb.out).trans h1⟩)
  have t1 := ta_crew
  have ho' := Lib.hid ho
  clear hne ho h
  go_wp2_with (at_builtin; refine app_crew_at 83 Try.underlying83 _ rfl _ _ rfl lo a _ c _ ho'.out x rfl rfl hq (by omega) ?_; intro g c' w1 ho1 hg1 hat1; have hc1 := hg1.cell hc hnb.out; have hf1 := (World.frozen?_of_block (a := ⟨hb, 0, none⟩) (hg1.block hb (by omega) hnb.out)).trans hf)
  go_end0
  have hlt1 := (World.ownsRow.lt ho1 g rfl)
  have hne1 : g ≠ hb := by
    rcases hat1 with e | e
    · rintro rfl; exact hnb.out e
    · omega
  have hst := pushed (v := .slice (some ⟨g, 0, none⟩) (q.length + 1) c') (hblk.out w1 hg1)
  refine ⟨⟨_, rfl⟩, ⟨_, _, _, hst, Own.same ho1 (fun j hj => heap_setCell_other w1 ⟨hb, 0, none⟩ j _ (fun e => ?_)), hl, ?_, fun j hj => ?_⟩, ?_⟩
  · have : g = j := by simpa [Value.ownBlock] using hj
    simp at e; omega
  · have := hg1.size; simp only [World.size_setCell]; omega
  · have : g = j := by simpa [Value.ownBlock] using hj
    subst this
    simp only [World.size_setCell]; exact ⟨hlt1.2, hne1⟩
  · exact (Ext.grown hx0 hg1 (fun j hj => .inl (by have := (World.ownsRow.lt ho'.out j hj).1; omega))).set (.inl (by show w0.heap.size ≤ hb; omega)) _

theorem Own.take {w : World} {B e : Nat} {a : Option Addr} {n c : Nat} {vs : List Value} (h : Own w B e a n c vs) {m : Nat} (hm : m ≤ n) (h0 : 0 < n) : Own w B e a m c (vs.take m) := by
  have hl := h.len
  refine ⟨by rw [List.length_take]; omega, ?_⟩
  rcases h.2 with ⟨_, h1⟩ | ⟨g, cap, cur, hv, hB, hg, hn, hc, hs, ht⟩
  · omega
  · injection hv with ha _ hcap
    subst ha hcap
    refine .inr ⟨g, c, cur, rfl, hB, hg, by omega, hc, hs, ?_⟩
    rw [← ht, List.take_take]; congr 1; omega
theorem OwnC.cap {w : World} {B : Nat} {a : Option Addr} {n c : Nat} {q : List Nat} (h : OwnC w B a n c q) : n ≤ c ∧ c ≤ 9223372036854775807 := by
  rcases h.2 with ⟨hv, h0⟩ | ⟨g, cap, _, hv, _, _, h1, h2, _⟩
  · injection hv with _ _ hc; subst hc; omega
  · injection hv with _ _ hc; subst hc; simp only [maxLen] at h2; omega
set_option maxRecDepth 20000 in
set_option maxHeartbeats 2000000 in
theorem oPop_any {hb lo hi n : Nat} {q : List Nat} {w : World} (h : HeapM w hb lo hi q) (hq : q.length = n + 1) :
    Calls Try.prog 126 #[.pointer (some ⟨hb, 0, none⟩)] w fun e w' => e = .returned (.iface 54 (.int .u64 (q.getD n 0 : Nat))) ∧ HeapM w' hb lo hi (q.take n) ∧ Chg lo hi w w' := by
  have h' := Lib.hid h
  obtain ⟨a, c, hc, hf, ho, hne, hl, hhb⟩ := h.cell
  rw [hq] at hc ho hne
  obtain ⟨g, rfl, hg⟩ := crsOwn ho (by omega)
  have hcell := ho.crs.cellAt (k := n) (by omega)
  rw [Nat.zero_add] at hcell
  have hcap := ho.cap
  have hm := ho.crs.max
  obtain ⟨x, hx⟩ : ∃ x, x = q.getD n 0 := ⟨_, rfl⟩
  rw [← hx] at hcell ⊢
  have hX := Lib.hid hx
  have ho' := Lib.hid ho
  have hne' := Lib.hid (hne g rfl)
  have hQ := Lib.hid hq
  clear hx ho h hne hq
  have e1 : ((n + 1 : Nat) : Int) - 1 = (n : Int) := by omega
  have e2 : IntKind.i64.wrap (((n + 1 : Nat) : Int) - 1) = (n : Int) := by rw [IntWalk.i64_in _ (by omega)]; omega
  have hnc : n ≤ c := by omega
  go_enter Try.func126, Try.ntmps126
  go_wp2_with fail
  go_ret
  have hst := pushed (v := .slice (some ⟨g, 0, none⟩) n c) (show ∃ u, w.heap[hb]? = some (.cells #[u] 83 (0, 0)) from by obtain ⟨a', n', c', h1, _⟩ := h'.out; exact ⟨_, h1⟩)
  have hlt := World.ownsRow.lt ho'.out g rfl
  have hcut := Own.take ho'.out (m := n) (by omega) (by omega)
  refine ⟨rfl, ⟨_, n, c, hst, ?_, hl, hhb, fun j hj => ?_⟩, Chg.of_grown (r := some hb) ⟨rfl, rfl, rfl, by simp, fun k hk hne => heap_setCell_other w ⟨hb, 0, none⟩ k _ (fun e => hne (by simp [e]))⟩ (fun j hj => by cases hj; exact ⟨hl, hhb⟩)⟩
  · have : OwnC w lo (some ⟨g, 0, none⟩) n c (q.take n) := by unfold OwnC; rw [List.map_take]; exact hcut
    exact Own.same this (fun j hj => heap_setCell_other w ⟨hb, 0, none⟩ j _ (fun e => by
      have : g = j := by simpa [Value.ownBlock] using hj
      simp at e; exact hne'.out.2 (by omega)))
  · have : g = j := by simpa [Value.ownBlock] using hj
    subst this; exact hne'.out

theorem ldv (b : Nat) (w : World) (v : Value) (h : w.cell? ⟨b, 0, none⟩ = some v) : (loadVar 83 ⟨b, 0, none⟩).run Try.prog w = .ok v w := by
  simp [go_sem, h]
theorem wnc (t : TypeId) (a : Addr) (x y : String) (w : World) : (Builtin.ssaWrapNilChk_ #[t] t #[.pointer (some a), strVal x, strVal y]).run Try.prog w = .ok (.pointer (some a)) w := rfl
theorem m_val (name : String) (F : Nat) (hm : ((Try.prog.info? 82).bind fun i => (i.methods.find? (·.name == name)).map fun m => (m.path, m.func)) = some (#[], some (F, false)))
    (b : Nat) (w : World) (v : Value) (h : w.cell? ⟨b, 0, none⟩ = some v) : (method 220 82 (.pointer (some ⟨b, 0, none⟩)) name).run Try.prog w = .ok (F, v) w := by
  obtain ⟨i, hi, hm⟩ := Option.bind_eq_some_iff.1 hm
  obtain ⟨m, hf, hm⟩ := Option.map_eq_some_iff.1 hm
  injection hm with h1 h2
  have hl := ldv b w v h
  unfold method
  simp [typeInfo, hi, hf, h1, h2, follow, receiverAt, run_underlying Try.underlying82, Place.get, wnc, asAddr, hl]
theorem m_push (b : Nat) (w : World) : (method 220 82 (.pointer (some ⟨b, 0, none⟩)) "Push").run Try.prog w = .ok (127, .pointer (some ⟨b, 0, none⟩)) w := by kernel_rfl
theorem m_pop (b : Nat) (w : World) : (method 220 82 (.pointer (some ⟨b, 0, none⟩)) "Pop").run Try.prog w = .ok (126, .pointer (some ⟨b, 0, none⟩)) w := by kernel_rfl
theorem kLess : ((Try.prog.info? 82).bind fun i => (i.methods.find? (·.name == "Less")).map fun m => (m.path, m.func)) = some (#[], some (125, false)) := by kernel_rfl
theorem kSwap : ((Try.prog.info? 82).bind fun i => (i.methods.find? (·.name == "Swap")).map fun m => (m.path, m.func)) = some (#[], some (128, false)) := by kernel_rfl
theorem kLen : ((Try.prog.info? 82).bind fun i => (i.methods.find? (·.name == "Len")).map fun m => (m.path, m.func)) = some (#[], some (92, false)) := by kernel_rfl
theorem HeapM.same {w w' : World} {hb lo hi : Nat} {q : List Nat} (h : HeapM w hb lo hi q) (hs : ∀ g, lo ≤ g → g < hi → g < w.heap.size → w'.heap[g]? = w.heap[g]?) : HeapM w' hb lo hi q := by
  obtain ⟨a, n, c, h1, h2, h3, h4, h5⟩ := h
  exact ⟨a, n, c, (hs hb h3 h4 (Array.getElem?_eq_some_iff.1 h1).1).trans h1, Own.same h2 (fun g hg => hs g (World.ownsRow.lt h2 g hg).1 (h5 g hg).1 (World.ownsRow.lt h2 g hg).2), h3, h4, h5⟩
theorem HeapM.ext0 {w w' : World} {hb lo hi : Nat} {q : List Nat} (h : HeapM w hb lo hi q) (hx : Ext none w w') : HeapM w' hb lo hi q := h.same fun g _ _ hg => World.grownBy.block hx g hg (by simp)
theorem Chg.draw {lo hi : Nat} {w w' : World} (h : Dr w w') : Chg lo hi w w' := by
  obtain ⟨n, rfl⟩ := h; exact ⟨rfl, rfl, rfl, Nat.le_refl _, fun _ _ _ => rfl⟩
/-- after a swap of two places -/
theorem HeapM.swapped {w w' : World} {hb lo hi : Nat} {q p : List Nat} {a : Option Addr} {n c g : Nat} (h : HeapM w hb lo hi q) (hc : w.cell? ⟨hb, 0, none⟩ = some (.slice (some ⟨g, 0, none⟩) n c)) (ho : OwnC w' lo (some ⟨g, 0, none⟩) n c p) (hg : w.grownBy w' (some g)) : HeapM w' hb lo hi p ∧ Chg lo hi w w' := by
  obtain ⟨a', n', c', h1, h2, h3, h4, h5⟩ := h
  have hc2 : w.cell? ⟨hb, 0, none⟩ = some (.slice a' n' c') := by simp [World.cell?, h1]
  rw [hc2] at hc
  injection hc with hc
  injection hc with e1 e2 e3
  subst e1 e2 e3
  have hgb := h5 g rfl
  refine ⟨⟨_, _, _, (hg.block hb (Array.getElem?_eq_some_iff.1 h1).1 (fun e => by injection e with e; exact hgb.2 e.symm)).trans h1, ho, h3, h4, h5⟩, Chg.of_grown hg (fun j hj => by cases hj; exact ⟨(World.ownsRow.lt h2 g rfl).1, hgb.1⟩)⟩

set_option maxRecDepth 20000 in
set_option maxHeartbeats 2000000 in
theorem heapUp_any {w0 : World} {hb lo hi j : Nat} {q : List Nat} {w : World} (h : HeapM w hb lo hi q) (hj : j < q.length) (hup : upAt j q) (hq : q.length ≤ 1000000) :
    Calls Try.prog 102 #[.iface 82 (.pointer (some ⟨hb, 0, none⟩)), .int .i64 (j : Nat)] w fun e w' => (∃ v, e = .returned v) ∧ ∃ q', q'.Perm q ∧ heapOn q'.length q' ∧ HeapM w' hb lo hi q' ∧ Chg lo hi w w' := by
  go_enter Try.func102, Try.ntmps102
  go_wp2_with fail
  go_loopw [1] (fun i wr => ∃ (j : Nat) (q' : List Nat), i = .int .i64 (j : Nat) ∧ j < q.length ∧ q'.Perm q ∧ upAt j q' ∧ HeapM wr hb lo hi q' ∧ Chg lo hi w wr)
    (fun i _ => (intOf i).toNat)
  case atStart => exact ⟨j, q, rfl, hj, List.Perm.refl _, hup, h, Chg.refl _ _ _⟩
  case round =>
    obtain ⟨j, p, rfl, hj, hp, hup, hM, hC⟩ := hrel
    have hl := hp.length_eq
    by_cases h0 : j = 0
    · subst h0
      have hdone := Lib.hid (up_done hup (.inl rfl))
      have HM := Lib.hid hM
      have HP := Lib.hid hp
      have HC := Lib.hid hC
      clear hM hp hC hup hl
      go_wp2_with fail
      go_end0
      exact ⟨⟨_, rfl⟩, p, HP.out, hdone.out, HM.out, HC.out⟩
    · obtain ⟨i, hi⟩ : ∃ i, i = (j - 1) / 2 := ⟨_, rfl⟩
      have hij : i < j := by omega
      have e1 : ((j : Int) - 1) / 2 = (i : Int) := by omega
      have j1 : (1 : Int) ≤ (j : Int) := by omega
      have hbf : ((i : Int) == (j : Int)) = false := by rw [beq_eq_false_iff_ne]; omega
      obtain ⟨a, c, hc, hf, ho, hne, hlo, hhb⟩ := hM.cell
      have hHI := Lib.hid hi
      rw [hl] at hc ho hne
      have HM := Lib.hid hM
      have HP := Lib.hid hp
      have HC := Lib.hid hC
      have hcrs := ho.crs
      have HO := Lib.hid ho
      have HU := Lib.hid hup
      have hil : i < q.length := by omega
      clear hM hp hC hup hl hi ho hne
      obtain ⟨g, rfl, hg⟩ := crsOwn HO.out (by omega)
      have m1 := m_val "Less" _ kLess hb wr _ hc
      cases hless : decide (p.getD j 0 < p.getD i 0)
      · have hdone := Lib.hid (up_done HU.out (.inr (by rw [decide_eq_false_iff_not] at hless; rw [← hHI.out]; omega)))
        go_wp2_with (go_at_call 125; refine (oLess_any hcrs hj hil hless).mono ?_; rintro e w1 ⟨rfl, d1⟩)
        go_end0
        exact ⟨⟨_, rfl⟩, p, HP.out, hdone.out, HM.out.ext0 d1.ext, HC.out.trans (Chg.draw d1)⟩
      · have hstep := Lib.hid (up_step HU.out (by rw [HP.out.length_eq]; exact hj) (by omega) (by rw [decide_eq_true_eq] at hless; rw [← hHI.out]; exact hless))
        rw [← hHI.out] at hstep
        have hpm := Lib.hid ((swp_perm p i j (by rw [HP.out.length_eq]; exact hil) (by rw [HP.out.length_eq]; exact hj)).trans HP.out)
        go_wp2_with (go_at_call 125; refine (oLess_any hcrs hj hil hless).mono ?_; rintro e w1 ⟨rfl, d1⟩; have hc1 := (d1.ext (r := none)).cell hc; have m2 := m_val "Swap" _ kSwap hb w1 _ hc1)
        refine (oSwap_any (HO.out.ext0 d1.ext) hil hj).mono ?_; rintro e w2 ⟨⟨v, rfl⟩, o2, g2⟩
        have hM2 := Lib.hid ((HM.out.ext0 d1.ext).swapped (a := none) hc1 o2 g2)
        clear o2 g2 m1 m2
        go_wp2_with fail
        go_roundw
        case rel => exact ⟨i, _, rfl, by omega, hpm.out, hstep.out, hM2.out.1, (HC.out.trans (Chg.draw d1)).trans hM2.out.2⟩
        case measure => simp [intOf]; omega
end Go.Proofs.Ytnlmcbilhfmenaa
