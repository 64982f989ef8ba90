/- Plain mathematics of quorum expressions, third part: duals, depth, the text as a join. No program text. -/
import Derived.Test.YtjjjpakgnipghaaDoorPO
import Derived.Lib.Join
import Derived.Lib.ItoaNum
namespace Go.Proofs.YtjjjpakgnipghaaDoor
namespace Fo
def du : Fo → Fo
  | nil => nil
  | leaf m r => leaf m r.du
  | gate k ops r => gate (ops.len - k + 1) ops.du r.du
def dep : Fo → Nat
  | nil => 0
  | leaf _ r => r.dep
  | gate _ ops r => max (ops.dep + 1) r.dep
theorem du_len (f : Fo) : f.du.len = f.len := by
  induction f with | nil => rfl | leaf m r ih => simp [du, len, ih] | gate k ops r _ ih => simp [du, len, ih]
theorem du_wf (f : Fo) (h : f.wf = true) : f.du.wf = true := by
  induction f with
  | nil => rfl
  | leaf m r ih => simp only [wf, du, Bool.and_eq_true] at h ⊢; exact ⟨h.1, ih h.2⟩
  | gate k ops r ih1 ih2 =>
    simp only [wf, du, Bool.and_eq_true, decide_eq_true_eq, du_len] at h ⊢
    exact ⟨⟨⟨⟨by omega, by omega⟩, h.1.1.2⟩, ih1 h.1.2⟩, ih2 h.2⟩
theorem du_du (f : Fo) (h : f.wf = true) : f.du.du = f := by
  induction f with
  | nil => rfl
  | leaf m r ih => simp only [wf, Bool.and_eq_true] at h; simp [du, ih h.2]
  | gate k ops r ih1 ih2 =>
    simp only [wf, Bool.and_eq_true, decide_eq_true_eq] at h
    simp only [du, du_len, ih1 h.1.2, ih2 h.2]
    rw [show ops.len - (ops.len - k + 1) + 1 = k from by omega]
theorem app_du (f g : Fo) : (f.app g).du = f.du.app g.du := by
  induction f with | nil => rfl | leaf m r ih => simp [app, du, ih] | gate k ops r _ ih => simp [app, du, ih]
theorem du_sep (f : Fo) : f.du.sep.length = f.sep.length := by
  induction f with | nil => rfl | leaf m r ih => simp [du, sep, ih] | gate k ops r ih1 ih2 => simp [du, sep, ih1, ih2]
theorem du_str (f : Fo) : f.du.str.length = f.str.length := by unfold str; simp [du_sep]
theorem du_occ (f : Fo) : f.du.occ = f.occ := by
  induction f with | nil => rfl | leaf m r ih => simp [du, occ, ih] | gate k ops r ih1 ih2 => simp [du, occ, ih1, ih2]
theorem du_dep (f : Fo) : f.du.dep = f.dep := by
  induction f with | nil => rfl | leaf m r ih => simp [du, dep, ih] | gate k ops r ih1 ih2 => simp [du, dep, ih1, ih2]
theorem app_dep (f g : Fo) : (f.app g).dep = max f.dep g.dep := by
  induction f with | nil => simp [app, dep] | leaf m r ih => simp [app, dep, ih] | gate k ops r _ ih => simp [app, dep, ih, Nat.max_assoc]
theorem dep_len (f : Fo) : f.dep ≤ f.str.length := by
  have key : ∀ f : Fo, f.dep ≤ f.sep.length - 1 := by
    intro f
    induction f with
    | nil => simp [dep]
    | leaf m r ih => simp only [dep, sep, List.length_cons]; omega
    | gate k ops r ih1 ih2 => simp only [dep, sep, List.length_cons, List.length_append, List.length_tail]; omega
  have := key f
  unfold str; rw [List.length_tail]; exact this
end Fo
theorem has_not {c m : Nat} (hc : c < 64) (h1 : 1 ≤ m) (h6 : m ≤ 6) : has (dif 63 c) m = !has c m := by
  have key : ∀ c < 64, ∀ m : Nat, m ≤ 6 → 1 ≤ m → has (dif 63 c) (m : Int) = !has c (m : Int) := by decide +kernel
  exact key c hc m h6 h1
theorem du_cnt {c : Nat} (hc : c < 64) (f : Fo) (h : f.wf = true) : f.du.cnt c + f.cnt (dif 63 c) = f.len := by
  induction f with
  | nil => rfl
  | leaf m r ih =>
    simp only [Fo.wf, Bool.and_eq_true, decide_eq_true_eq] at h
    have := ih h.2
    simp only [Fo.du, Fo.cnt, Fo.len, has_not hc h.1.1 h.1.2]
    cases has c m <;> simp <;> omega
  | gate k ops r ih1 ih2 =>
    simp only [Fo.wf, Bool.and_eq_true, decide_eq_true_eq] at h
    have e1 := ih1 h.1.2
    have e2 := ih2 h.2
    simp only [Fo.du, Fo.cnt, Fo.len]
    split <;> split <;> omega
theorem sat_du {c : Nat} (hc : c < 64) {t : Fo} (h : t.wf = true) (hl : t.len = 1) : sat c t.du = !sat (dif 63 c) t := by
  have := du_cnt hc t h
  unfold sat
  by_cases h1 : 1 ≤ t.cnt (dif 63 c)
  · rw [decide_eq_true h1, decide_eq_false (show ¬ 1 ≤ t.du.cnt c by omega)]; rfl
  · rw [decide_eq_false h1, decide_eq_true (show 1 ≤ t.du.cnt c by omega)]; rfl
/-- the dual of a text; empty, if it is none -/
def dualL (L : List UInt8) : List UInt8 := match ex L with | none => [] | some t => t.du.str
def depL (L : List UInt8) : Int := match ex L with | none => -1 | some t => (t.dep : Int)
theorem ok_ex {L : List UInt8} (h : okE L = true) : ∃ t, ex L = some t := by
  unfold okE at h; exact Option.isSome_iff_exists.1 h
theorem dual_no {L : List UInt8} (h : okE L = false) : dualL L = [] ∧ depL L = -1 := by
  unfold okE at h
  have : ex L = none := by cases he : ex L with | none => rfl | some t => rw [he] at h; cases h
  unfold dualL depL; rw [this]; exact ⟨rfl, rfl⟩
theorem dual_ex {L : List UInt8} {t : Fo} (h : ex L = some t) : dualL L = t.du.str ∧ ex (dualL L) = some t.du ∧ dualL L ≠ [] := by
  obtain ⟨h1, h2, h3, h4, _⟩ := ex_some h
  have hd : dualL L = t.du.str := by unfold dualL; rw [h]
  refine ⟨hd, ?_, ?_⟩
  · rw [hd]
    exact ex_str (Fo.du_wf t h2) (by rw [Fo.du_len, h3]) (by rw [Fo.du_str, ← h1]; exact h4)
  · rw [hd]
    intro e
    have := str_pos (Fo.ne_nil (show 0 < t.du.len by rw [Fo.du_len, h3]; exact Nat.one_pos))
    rw [e] at this; simp at this
theorem dual_ok {L : List UInt8} (h : okE L = true) : okE (dualL L) = true ∧ dualL L ≠ [] ∧ dualL (dualL L) = L ∧ membersE (dualL L) = membersE L ∧ depL (dualL L) = depL L ∧ (dualL L).length = L.length := by
  obtain ⟨t, ht⟩ := ok_ex h
  obtain ⟨h1, h2, h3, h4, _⟩ := ex_some ht
  obtain ⟨d1, d2, d3⟩ := dual_ex ht
  have ho : okE (dualL L) = true := by unfold okE; rw [d2]; rfl
  refine ⟨ho, d3, ?_, ?_, ?_, ?_⟩
  · rw [(dual_ex d2).1, Fo.du_du t h2, ← h1]
  · unfold membersE occE; rw [ho, h, d2, ht]; show mem t.du.occ = mem t.occ; rw [Fo.du_occ]
  · unfold depL; rw [d2, ht]; simp only [Fo.du_dep]
  · rw [d1, Fo.du_str, ← h1]
theorem dual_sat {L : List UInt8} (h : okE L = true) {c : Nat} (hc : c < 64) : satE (dualL L) c = !satE L (dif 63 c) := by
  obtain ⟨t, ht⟩ := ok_ex h
  obtain ⟨h1, h2, h3, h4, _⟩ := ex_some ht
  unfold satE
  rw [(dual_ex ht).2.1, ht]
  exact sat_du hc h2 h3
theorem dual_len {L : List UInt8} : (dualL L).length ≤ 40 := by
  cases h : okE L
  · rw [(dual_no h).1]; simp
  · obtain ⟨t, ht⟩ := ok_ex h
    rw [(dual_ok h).2.2.2.2.2]; exact (ex_some ht).2.2.2.1
/-- the text of a forest: its trees' texts, joined -/
theorem join_str (F : Fo) : Lib.join ((trees F).map Fo.str) [44] = F.str := by
  have key : ∀ F : Fo, Lib.joinTail [44] ((trees F).map Fo.str) = F.sep := by
    intro F
    induction F with
    | nil => rfl
    | leaf m r ih =>
      rw [trees, List.map_cons]
      show [44] ++ (Fo.leaf m .nil).str ++ Lib.joinTail [44] ((trees r).map Fo.str) = _
      rw [ih]; rfl
    | gate k ops r _ ih =>
      rw [trees, List.map_cons]
      show [44] ++ (Fo.gate k ops .nil).str ++ Lib.joinTail [44] ((trees r).map Fo.str) = _
      rw [ih, str_gate]
      show _ = 44 :: Fo.dg k :: 40 :: (ops.sep.tail ++ 41 :: r.sep)
      unfold Fo.str; simp
  cases F with
  | nil => rfl
  | leaf m r => rw [trees, List.map_cons, Lib.join_cons, key]; rfl
  | gate k ops r =>
    rw [trees, List.map_cons, Lib.join_cons, key, str_gate]
    show _ = (44 :: Fo.dg k :: 40 :: (ops.sep.tail ++ 41 :: r.sep)).tail
    unfold Fo.str; simp
theorem digits_small {k : Nat} (h : k < 10) : Lib.decDigits k = [Fo.dg k] := by
  unfold Lib.decDigits; rw [dif_pos h]; rfl
theorem takeF_len2 (q : Nat) (F : Fo) (h : q ≤ F.len) : (takeF q F).len = q := by
  induction q generalizing F with
  | zero => rw [takeF_zero]; rfl
  | succ q ih =>
    cases F with
    | nil => simp [Fo.len] at h
    | leaf m r => rw [takeF, Fo.len, ih r (by simp only [Fo.len] at h; omega)]
    | gate k ops r => rw [takeF, Fo.len, ih r (by simp only [Fo.len] at h; omega)]
end Go.Proofs.YtjjjpakgnipghaaDoor
