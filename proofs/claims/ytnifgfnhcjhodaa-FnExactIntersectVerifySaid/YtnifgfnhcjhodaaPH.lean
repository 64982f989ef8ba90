/- XPH: several texts in one. Conditions: each lemma's own. -/
import Derived.Test.YtnifgfnhcjhodaaPJ
import Derived.Test.YtnifgfnhcjhodaaPN
import Derived.Test.YtnifgfnhcjhodaaW4



namespace Go.Proofs.Ytnifgfnhcjhodaa
open Go.RowKit
set_option linter.unusedVariables false

theorem crsOwn {w : World} {lo : Nat} {a : Option Addr} {n c : Nat} {q : List Nat} (h : OwnC w lo a n c q) (hn : 0 < n) : ∃ g, a = some ⟨g, 0, none⟩ ∧ lo ≤ g := by
  rcases h.2 with ⟨hv, h0⟩ | ⟨g, cap, cur, hv, hB, _⟩
  · omega
  · injection hv with ha; exact ⟨g, ha, hB⟩
theorem OwnC.set {w : World} {B g n c : Nat} {q : List Nat} (h : OwnC w B (some ⟨g, 0, none⟩) n c q) (j : Nat) (u : Nat) :
    OwnC (w.setCell ⟨g, j, none⟩ (.int .u64 (u : Nat))) B (some ⟨g, 0, none⟩) n c (q.set j u) ∧ w.grownBy (w.setCell ⟨g, j, none⟩ (.int .u64 (u : Nat))) (some g) := by
  have := World.ownsRow.stored (h : w.ownsRow B 52 1 (.slice (some ⟨g, 0, none⟩) n c) n (q.map (fun c => Value.int .u64 (c : Nat)))) j (.int .u64 (u : Nat))
  exact ⟨by unfold OwnC Own; rw [List.map_set]; exact this.1, this.2⟩
theorem pushed {w : World} {hb : Nat} {v : Value} {t : TypeId} (h : ∃ u, w.heap[hb]? = some (.cells #[u] t (0, 0))) : (w.setCell ⟨hb, 0, none⟩ v).heap[hb]? = some (.cells #[v] t (0, 0)) := by
  obtain ⟨u, h⟩ := h
  simp [World.setCell, Array.getElem?_modify, h]
/-- 'q = append(q, c)', with where the row lies then -/
theorem app_crew_at (t : TypeId) (ht : Try.prog.underlying t = some (.slice 52)) (w : World) {ops : Array Oper} {rest : List Oper} {o : Oper} {a : Act} {Q : Exit → Act → World → Prop} (hgd : o.guard = none) (s x : Operand)
    (ho : o.op = .call { callee := .builtin .append, args := #[s, x], argTypes := #[t, t] })
    (B : Nat) (ad : Option Addr) (n c : Nat) (q : List Nat) (hown : OwnC w B ad n c q) (y : Nat) (hs : a.eval s = .slice ad n c)
    (hx : a.eval x = .slice (some ⟨w.heap.size, 0, none⟩) 1 1) (hlen : n + 1 ≤ 1000000) (hB : B ≤ w.heap.size)
    (h : ∀ g c' w', OwnC w' B (some ⟨g, 0, none⟩) (n + 1) c' (q ++ [y]) → w.grownBy w' (Value.slice ad n c).ownBlock → (some g = (Value.slice ad n c).ownBlock ∨ g = w.heap.size + 1) → wpList Try.prog ops Q rest (a.put o.dst (.slice (some ⟨g, 0, none⟩) (n + 1) c')) w') :
    wpList Try.prog ops Q (o :: rest) a (w.alloc (.cells #[.int .u64 (y : Nat)] 52)) := by
  obtain ⟨i0, hi, hz0, hz1, hz2⟩ := info_parts crewInfo
  refine append1_at w hgd s x t ho B 52 i0 (.int .u64 0) 8 ht hi hz0 hz1 hz2 rfl ad n c _ hs hown (.int .u64 (y : Nat)) hx rfl hlen (by decide) hB ?_
  intro g c' w' h1 h2 h3
  exact h g c' w' (by simpa [OwnC, List.map_append] using h1) h2 h3
theorem ta_crew (x : Nat) (w : World) : (Instr.typeAssert (.iface 52 (.int .u64 (x : Nat))) 20 52 true).run Try.prog w = .ok (.tuple #[.int .u64 (x : Nat), .bool true]) w := by kernel_rfl
theorem Own.take {w : World} {B e : Nat} {a : Option Addr} {n c : Nat} {vs : List Value} (h : Own w B e a n c vs) {m : Nat} (hm : m ≤ n) (h0 : 0 < n) : Own w B e a m c (vs.take m) := by
  have hl := h.len
  refine ⟨by rw [List.length_take]; omega, ?_⟩
  rcases h.2 with ⟨_, h1⟩ | ⟨g, cap, cur, hv, hB, hg, hn, hc, hs, ht⟩
  · omega
  · injection hv with ha _ hcap
    subst ha hcap
    refine .inr ⟨g, c, cur, rfl, hB, hg, by omega, hc, hs, ?_⟩
    rw [← ht, List.take_take]; congr 1; omega
theorem OwnC.cap {w : World} {B : Nat} {a : Option Addr} {n c : Nat} {q : List Nat} (h : OwnC w B a n c q) : n ≤ c ∧ c ≤ 9223372036854775807 := by
  rcases h.2 with ⟨hv, h0⟩ | ⟨g, cap, _, hv, _, _, h1, h2, _⟩
  · injection hv with _ _ hc; subst hc; omega
  · injection hv with _ _ hc; subst hc; simp only [maxLen] at h2; omega
theorem wnc (t : TypeId) (a : Addr) (x y : String) (w : World) : (Builtin.ssaWrapNilChk_ #[t] t #[.pointer (some a), strVal x, strVal y]).run Try.prog w = .ok (.pointer (some a)) w := rfl
theorem Chg.draw {lo hi : Nat} {w w' : World} (h : Dr w w') : Chg lo hi w w' := by
  obtain ⟨n, rfl⟩ := h; exact ⟨rfl, rfl, rfl, Nat.le_refl _, fun _ _ _ => rfl⟩
theorem ta_crew2 (x : Nat) (w : World) : (Instr.typeAssert (.iface 52 (.int .u64 (x : Nat))) 20 52 true).run Try.prog w = .ok (.tuple #[.int .u64 (x : Nat), .bool true]) w := by kernel_rfl

/-- how many are in the heap -/
def heapLen (hb : Nat) (w : World) : Nat := match w.cell? ⟨hb, 0, none⟩ with | some (.slice _ n _) => n | _ => 0
theorem out_lt {q out left : List Nat} (h : MinI q out left) (hq : ∀ x ∈ q, x < 64) : ∀ x ∈ out, x < 64 := fun x hx => hq x (h.2.1 x hx)

end Go.Proofs.Ytnifgfnhcjhodaa
