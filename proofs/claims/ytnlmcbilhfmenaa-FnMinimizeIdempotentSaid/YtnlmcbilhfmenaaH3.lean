/- container/heap over package impl: Push, down, Pop. Conditions: each lemma's own. -/
import Derived.Test.YtnlmcbilhfmenaaH2
namespace Go.Proofs.Ytnlmcbilhfmenaa
open Go.RowKit
set_option linter.unusedVariables false

theorem HeapM.high {w : World} {hb lo hi hi' : Nat} {q : List Nat} (h : HeapM w hb lo hi q) (hl : hi ≤ hi') : HeapM w hb lo hi' q := by
  obtain ⟨a, n, c, h1, h2, h3, h4, h5⟩ := h
  exact ⟨a, n, c, h1, h2, h3, by omega, fun g hg => ⟨by have := (h5 g hg).1; omega, (h5 g hg).2⟩⟩
set_option maxRecDepth 20000 in
set_option maxHeartbeats 2000000 in
theorem heapPush_any {w0 : World} {hb lo x : Nat} {q : List Nat} {w : World} (h : HeapM w hb lo w.heap.size q) (hh : heapOn q.length q) (hx0 : Ext none w0 w) (hlo : w0.heap.size ≤ lo) (hq : q.length + 1 ≤ 1000000) :
    Calls Try.prog 91 #[.iface 82 (.pointer (some ⟨hb, 0, none⟩)), .iface 54 (.int .u64 (x : Nat))] w fun e w' => (∃ v, e = .returned v) ∧ ∃ q', q'.Perm (q ++ [x]) ∧ heapOn q'.length q' ∧ HeapM w' hb lo w'.heap.size q' ∧ Ext none w0 w' := by
  have m1 := m_push hb w
  have hup := Lib.hid (up_start x hh)
  have hlen : (q ++ [x]).length = q.length + 1 := by simp
  have HL := Lib.hid hlen
  clear hlen hh
  go_enter Try.func91, Try.ntmps91
  go_wp2_with (first
    | (go_at_call 127; refine (oPush_any h hx0 hlo hq (Nat.le_refl _)).mono ?_; rintro e w1 ⟨⟨v, rfl⟩, h1, hx1⟩; obtain ⟨a, c, hc, hf, ho, hne, hl, hhb⟩ := h1.cell; rw [HL.out] at hc; have h1' := Lib.hid h1; obtain ⟨n, hn⟩ : ∃ n, n = q.length := ⟨_, rfl⟩; rw [← hn] at hc hq; have m2 := m_val "Len" _ kLen hb w1 _ hc; have hN := Lib.hid hn; clear hn ho hne h h1 m1; have e1 : ((n + 1 : Nat) : Int) - 1 = (n : Int) := (by omega))
    | (go_at_call 92; refine (oLen_any (by omega)).mono ?_; rintro e w' ⟨rfl, rfl⟩))
  have hj1 := Lib.hid (show q.length < (q ++ [x]).length from by rw [HL.out]; omega)
  have hj2 := Lib.hid (show (q ++ [x]).length ≤ 1000000 from by rw [HL.out]; rw [← hN.out]; exact hq)
  refine (heapUp_any (w0 := w0) (j := n) h1'.out (by rw [hN.out]; exact hj1.out) (by rw [hN.out]; exact hup.out) hj2.out).mono ?_; rintro e w2 ⟨⟨v, rfl⟩, q', hp, hh2, hM2, hC2⟩
  go_wp2_with fail
  go_end0
  exact ⟨⟨_, rfl⟩, q', hp, hh2, hM2.high hC2.2.2.2.1, hC2.ext hx1 hlo⟩
end Go.Proofs.Ytnlmcbilhfmenaa
