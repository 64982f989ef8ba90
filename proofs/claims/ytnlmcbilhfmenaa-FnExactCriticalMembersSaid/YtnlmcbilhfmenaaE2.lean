/- Plain mathematics of quorum expressions, second part: the end of an expression by indexes, the operands of a text. No program text. -/
import Derived.Test.YtnlmcbilhfmenaaE1
namespace Go.Proofs.Ytnlmcbilhfmenaa
open Fo

/-- the index behind the expression at an index, -1 if there is none -/
def endL (L : List UInt8) (j : Nat) : Int :=
  match px (L.drop j) with
  | none => -1
  | some (_, r) => (L.length : Int) - r.length
def fin (k n : Nat) (o : Option (Fo × List UInt8)) : Int :=
  match o with
  | none => -1
  | some (ops, r) => if ops.len ≤ 6 ∧ k ≤ ops.len then (n : Int) - r.length else -1
def contP (s : List UInt8) (F : Fo) : Option (Fo × List UInt8) :=
  if F.len = 0 then pm s.tail F else if s.head? = some 41 then some (F, s.tail) else if s.head? = some 44 then pm s.tail F else none

theorem drop_at {L : List UInt8} {j : Nat} {b : UInt8} (h : L[j]? = some b) : L.drop j = b :: L.drop (j + 1) := by
  obtain ⟨hj, rfl⟩ := List.getElem?_eq_some_iff.1 h
  exact List.drop_eq_getElem_cons hj
theorem endL_out {L : List UInt8} {j : Nat} (h : L.length ≤ j) : endL L j = -1 := by
  unfold endL; rw [List.drop_of_length_le h, px_nil]
theorem endL_bad {L : List UInt8} {j : Nat} {b : UInt8} (h : L[j]? = some b) (hb : isDg b = false) : endL L j = -1 := by
  unfold endL; rw [drop_at h, px_bad b _ hb]
theorem endL_leaf {L : List UInt8} {j : Nat} {b : UInt8} (h : L[j]? = some b) (hb : isDg b = true) (hn : L[j + 1]? ≠ some 40) : endL L j = (j : Int) + 1 := by
  unfold endL
  have hd := dg_dgv hb
  have hh : (L.drop (j + 1)).head? ≠ some 40 := by rw [List.head?_drop]; exact hn
  have hp := px_leaf (dgv b) (L.drop (j + 1)) hd.2.1 hd.2.2 hh
  rw [hd.1] at hp
  rw [drop_at h, hp]
  have := (List.getElem?_eq_some_iff.1 h).1
  simp only [List.length_drop]; omega
theorem endL_gate {L : List UInt8} {j : Nat} {b : UInt8} (h : L[j]? = some b) (hb : isDg b = true) (hn : L[j + 1]? = some 40) :
    endL L j = fin (dgv b) L.length (pm (L.drop (j + 1 + 1)) .nil) := by
  unfold endL
  have hd := dg_dgv hb
  rw [drop_at h, drop_at hn]
  cases hp : pm (L.drop (j + 1 + 1)) .nil with
  | none =>
    have := px_paren_none (dgv b) _ hd.2.1 hd.2.2 hp
    rw [hd.1] at this
    rw [this]; rfl
  | some x =>
    obtain ⟨ops, r⟩ := x
    have := px_paren (dgv b) _ r ops hd.2.1 hd.2.2 hp
    rw [hd.1] at this
    rw [this]
    unfold fin
    by_cases hc : ops.len ≤ 6 ∧ dgv b ≤ ops.len
    · simp only [if_pos hc]
    · simp only [if_neg hc]
theorem contP_start {L : List UInt8} {j : Nat} : contP (L.drop (j + 1)) .nil = pm (L.drop (j + 1 + 1)) .nil := by
  unfold contP; rw [if_pos (show Fo.nil.len = 0 from rfl), List.tail_drop]
theorem fin_end {L : List UInt8} {j k n : Nat} {F : Fo} (h : L.length ≤ j) (hF : 0 < F.len) : fin k n (contP (L.drop j) F) = -1 := by
  unfold contP
  rw [List.drop_of_length_le h, if_neg (by omega), if_neg (by simp), if_neg (by simp)]; rfl
theorem fin_close {L : List UInt8} {j k : Nat} {F : Fo} (h : L[j]? = some 41) (hF : 0 < F.len) (hF6 : F.len ≤ 6) :
    fin k L.length (contP (L.drop j) F) = if k ≤ F.len then (j : Int) + 1 else -1 := by
  unfold contP
  rw [drop_at h, if_neg (by omega), if_pos (by rfl)]
  unfold fin
  have := (List.getElem?_eq_some_iff.1 h).1
  by_cases hk : k ≤ F.len
  · simp only [if_pos hk, if_pos (And.intro hF6 hk), List.tail_cons, List.length_drop]; omega
  · simp only [if_neg hk]; rw [if_neg (by omega)]
theorem fin_bad {L : List UInt8} {j k n : Nat} {F : Fo} {b : UInt8} (h : L[j]? = some b) (h1 : b ≠ 41) (h2 : b ≠ 44) (hF : 0 < F.len) : fin k n (contP (L.drop j) F) = -1 := by
  unfold contP
  rw [drop_at h, if_neg (by omega), if_neg (by simpa using h1), if_neg (by simpa using h2)]; rfl
theorem fin_many {L : List UInt8} {j k n : Nat} {F : Fo} {b : UInt8} (h : L[j]? = some b) (h1 : b ≠ 41) (hF : 6 ≤ F.len) : fin k n (contP (L.drop j) F) = -1 := by
  by_cases h2 : b = 44
  · subst h2
    unfold contP
    rw [drop_at h, if_neg (by omega), if_neg (by simp), if_pos (by rfl), List.tail_cons]
    cases hp : pm (L.drop (j + 1)) F with
    | none => rfl
    | some x =>
      obtain ⟨f, r⟩ := x
      obtain ⟨g, rfl, hg, _⟩ := pm_sound hp
      unfold fin
      simp only
      rw [if_neg (by rw [app_len]; omega)]
  · exact fin_bad h h1 h2 (by omega)
theorem contP_go {L : List UInt8} {j : Nat} {F : Fo} (h : F.len = 0 ∨ L[j]? = some 44) : contP (L.drop j) F = pm (L.drop (j + 1)) F := by
  unfold contP
  by_cases h0 : F.len = 0
  · rw [if_pos h0, List.tail_drop]
  · rcases h with h | h
    · exact absurd h h0
    · rw [if_neg h0, drop_at h, if_neg (by simp), if_pos (by rfl)]; rfl
theorem endL_neg {L : List UInt8} {j : Nat} (h : px (L.drop j) = none) : endL L j = -1 := by unfold endL; rw [h]
theorem fin_stop {L : List UInt8} {j k n : Nat} {F : Fo} (h : F.len = 0 ∨ L[j]? = some 44) (hp : px (L.drop (j + 1)) = none) : fin k n (contP (L.drop j) F) = -1 := by
  rw [contP_go h, pm_none F hp]; rfl
/-- what is left is the end of the text -/
theorem px_rest {L r : List UInt8} {j : Nat} {t : Fo} (h : px (L.drop j) = some (t, r)) : j < L.length ∧ j < L.length - r.length ∧ r.length ≤ L.length ∧ L.drop (L.length - r.length) = r ∧ endL L j = ((L.length - r.length : Nat) : Int) := by
  have hs := (px_sound h).1
  have hl := px_len h
  rw [List.length_drop] at hl
  refine ⟨by omega, by omega, by omega, ?_, ?_⟩
  · have hsuf : r <:+ L := ⟨L.take j ++ t.str, by rw [List.append_assoc, ← hs, List.take_append_drop]⟩
    obtain ⟨p, rfl⟩ := hsuf
    rw [List.length_append, Nat.add_sub_cancel, List.drop_left]
  · unfold endL; rw [h]; simp only; omega
theorem contP_step {L r : List UInt8} {j : Nat} {F t : Fo} (h : F.len = 0 ∨ L[j]? = some 44) (hp : px (L.drop (j + 1)) = some (t, r)) :
    contP (L.drop j) F = contP (L.drop (L.length - r.length)) (F.app t) ∧ (F.app t).len = F.len + 1 := by
  have h1 := (px_sound hp).2.2
  have hlen : (F.app t).len = F.len + 1 := by rw [app_len, h1]
  refine ⟨?_, hlen⟩
  rw [contP_go h, (px_rest hp).2.2.2.1, pm_eq, hp]
  unfold contP
  rw [if_neg (by omega)]
/-- a text is an expression: what its end says -/
theorem okE_end (L : List UInt8) (h : L.length ≤ 40) : okE L = (decide (endL L 0 = (L.length : Int)) && decide (0 < L.length)) := by
  unfold okE ex endL
  rw [if_pos h, List.drop_zero]
  cases hp : px L with
  | none => simp
  | some x =>
    obtain ⟨t, r⟩ := x
    have := px_len hp
    cases r with
    | nil => simp; simpa using this
    | cons a q => simp; intro h; omega
theorem okE_long (L : List UInt8) (h : ¬ L.length ≤ 40) : okE L = false := by
  unfold okE ex; rw [if_neg h]; rfl

/-- the trees of a forest, each alone -/
def trees : Fo → List Fo
  | .nil => []
  | .leaf m r => .leaf m .nil :: trees r
  | .gate k ops r => .gate k ops .nil :: trees r
theorem trees_len (f : Fo) : (trees f).length = f.len := by
  induction f with | nil => rfl | leaf m r ih => simp [trees, len, ih] | gate k ops r _ ih => simp [trees, len, ih]
/-- the first tree, and the others -/
def hdF : Fo → Fo
  | .nil => .nil
  | .leaf m _ => .leaf m .nil
  | .gate k ops _ => .gate k ops .nil
def tlF : Fo → Fo
  | .nil => .nil
  | .leaf _ r => r
  | .gate _ _ r => r
theorem trees_cons {F : Fo} (h : F ≠ .nil) : trees F = hdF F :: trees (tlF F) := by
  cases F with | nil => exact absurd rfl h | leaf m r => rfl | gate k ops r => rfl
theorem hd_app {F : Fo} (h : F ≠ .nil) : (hdF F).app (tlF F) = F := by
  cases F with | nil => exact absurd rfl h | leaf m r => rfl | gate k ops r => rfl
theorem hd_len {F : Fo} (h : F ≠ .nil) : (hdF F).len = 1 := by
  cases F with | nil => exact absurd rfl h | leaf m r => rfl | gate k ops r => rfl
theorem tl_len {F : Fo} (h : F ≠ .nil) : F.len = (tlF F).len + 1 := by
  cases F with | nil => exact absurd rfl h | leaf m r => rfl | gate k ops r => rfl
theorem hd_wf {F : Fo} (h : F.wf = true) : (hdF F).wf = true ∧ (tlF F).wf = true := by
  cases F with
  | nil => exact ⟨rfl, rfl⟩
  | leaf m r => simp only [wf, Bool.and_eq_true, decide_eq_true_eq] at h; exact ⟨by simp [hdF, wf, h], h.2⟩
  | gate k ops r => simp only [wf, Bool.and_eq_true, decide_eq_true_eq] at h; exact ⟨by simp [hdF, wf, h], h.2⟩
theorem str_hd {F : Fo} (h : F ≠ .nil) : F.str = (hdF F).str ++ (tlF F).sep := by
  cases F with | nil => exact absurd rfl h | leaf m r => simp [str, sep, hdF, tlF] | gate k ops r => simp [str, sep, hdF, tlF]
theorem trees_wf {F : Fo} (h : F.wf = true) : ∀ t ∈ trees F, t.wf = true ∧ t.len = 1 := by
  induction F with
  | nil => intro t ht; simp [trees] at ht
  | leaf m r ih =>
    have hw := hd_wf h
    intro t ht
    rw [trees_cons (by simp)] at ht
    rcases List.mem_cons.1 ht with rfl | ht
    · exact ⟨hw.1, rfl⟩
    · exact ih hw.2 t ht
  | gate k ops r _ ih =>
    have hw := hd_wf h
    intro t ht
    rw [trees_cons (by simp)] at ht
    rcases List.mem_cons.1 ht with rfl | ht
    · exact ⟨hw.1, rfl⟩
    · exact ih hw.2 t ht
/-- the end of the first of several trees -/
theorem end_hd {L : List UInt8} {j : Nat} {F : Fo} {q : List UInt8} (hF : F ≠ .nil) (hw : F.wf = true) (h : L.drop j = F.str ++ 41 :: q) :
    ∃ i, endL L j = (i : Nat) ∧ j ≤ i ∧ i < L.length ∧ L.drop i = (tlF F).sep ++ 41 :: q ∧ (L.drop j).take (i - j) = (hdF F).str := by
  have hh : ((tlF F).sep ++ 41 :: q).head? ≠ some 40 := by
    by_cases h0 : tlF F = .nil
    · rw [h0]; simp [sep]
    · rw [sep_str h0]; simp
  have hp : px (L.drop j) = some (hdF F, (tlF F).sep ++ 41 :: q) := by
    rw [h, str_hd hF, List.append_assoc]
    exact px_tree _ _ (hd_wf hw).1 (hd_len hF) hh
  obtain ⟨h1, h2, h3, h4, h5⟩ := px_rest hp
  refine ⟨_, h5, by omega, ?_, h4, ?_⟩
  · simp only [List.length_append, List.length_cons] at h3 ⊢; omega
  · have hlen : L.length - j = (hdF F).str.length + ((tlF F).sep ++ 41 :: q).length := by
      have := congrArg List.length (px_sound hp).1
      rw [List.length_drop, List.length_append] at this
      exact this
    rw [(px_sound hp).1]
    rw [show L.length - ((tlF F).sep ++ 41 :: q).length - j = (hdF F).str.length from by omega]
    exact List.take_left
/-- the first n trees -/
def takeF : Nat → Fo → Fo
  | 0, _ => .nil
  | _ + 1, .nil => .nil
  | n + 1, .leaf m r => .leaf m (takeF n r)
  | n + 1, .gate k ops r => .gate k ops (takeF n r)
theorem takeF_zero (F : Fo) : takeF 0 F = .nil := by rw [takeF]
theorem takeF_mem0 (F : Fo) : mem (takeF 0 F).occ = [] := by rw [takeF_zero]; decide
theorem takeF_cnt0 (F : Fo) (c : Nat) : (takeF 0 F).cnt c = 0 := by rw [takeF_zero]; rfl
theorem takeF_all (F : Fo) : takeF F.len F = F := by
  induction F with | nil => rfl | leaf m r ih => simp [len, takeF, ih] | gate k ops r _ ih => simp [len, takeF, ih]
theorem takeF_step (n : Nat) (F t : Fo) (h : (trees F)[n]? = some t) : takeF (n + 1) F = (takeF n F).app t := by
  induction n generalizing F with
  | zero =>
    cases F with
    | nil => simp [trees] at h
    | leaf m r => simp [trees] at h; subst h; simp [takeF, app]
    | gate k ops r => simp [trees] at h; subst h; simp [takeF, app]
  | succ n ih =>
    cases F with
    | nil => simp [trees] at h
    | leaf m r => simp only [trees, List.getElem?_cons_succ] at h; rw [takeF, ih r h]; rfl
    | gate k ops r => simp only [trees, List.getElem?_cons_succ] at h; rw [takeF, ih r h]; rfl
theorem takeF_wf (n : Nat) (F : Fo) (h : F.wf = true) : (takeF n F).wf = true := by
  induction n generalizing F with
  | zero => rfl
  | succ n ih =>
    cases F with
    | nil => rfl
    | leaf m r => simp only [wf, takeF, Bool.and_eq_true] at h ⊢; exact ⟨h.1, ih r h.2⟩
    | gate k ops r => simp only [wf, takeF, Bool.and_eq_true] at h ⊢; exact ⟨h.1, ih r h.2⟩
theorem occ_step (n : Nat) (F t : Fo) (h : (trees F)[n]? = some t) : (takeF (n + 1) F).occ = (takeF n F).occ ||| t.occ := by
  rw [takeF_step n F t h, app_occ]
theorem cnt_step (c n : Nat) (F t : Fo) (h : (trees F)[n]? = some t) : (takeF (n + 1) F).cnt c = (takeF n F).cnt c + t.cnt c := by
  rw [takeF_step n F t h, app_cnt]
theorem cnt_one (c : Nat) (t : Fo) (h : t.len = 1) : t.cnt c = if sat c t then 1 else 0 := by
  have := cnt_le c t
  unfold sat
  by_cases h1 : 1 ≤ t.cnt c
  · rw [decide_eq_true h1]; simp; omega
  · rw [decide_eq_false h1]; simp; omega
/-- a single tree -/
theorem one_tree {t : Fo} (hw : t.wf = true) (hl : t.len = 1) : (∃ m, t = .leaf m .nil ∧ 1 ≤ m ∧ m ≤ 6) ∨
    (∃ k ops, t = .gate k ops .nil ∧ 1 ≤ k ∧ k ≤ ops.len ∧ ops.len ≤ 6 ∧ ops.wf = true) := by
  cases t with
  | nil => simp [len] at hl
  | leaf m q =>
    cases q with
    | nil => simp only [wf, Bool.and_eq_true, decide_eq_true_eq] at hw; exact .inl ⟨m, rfl, hw.1⟩
    | leaf _ _ => simp [len] at hl
    | gate _ _ _ => simp [len] at hl
  | gate k ops q =>
    cases q with
    | nil => simp only [wf, Bool.and_eq_true, decide_eq_true_eq] at hw; exact .inr ⟨k, ops, rfl, hw.1.1.1.1, hw.1.1.1.2, hw.1.1.2, hw.1.2⟩
    | leaf _ _ => simp [len] at hl
    | gate _ _ _ => simp [len] at hl
theorem str_leaf (m : Nat) : (Fo.leaf m .nil).str = [dg m] := rfl
theorem str_gate (k : Nat) (ops : Fo) : (Fo.gate k ops .nil).str = dg k :: 40 :: (ops.str ++ [41]) := by
  show dg k :: 40 :: (ops.sep.tail ++ 41 :: []) = _
  rfl
theorem str_pos {t : Fo} (h : t ≠ .nil) : 0 < t.str.length := by
  cases t with | nil => exact absurd rfl h | leaf m r => simp [str, sep] | gate k ops r => simp [str, sep]
/-- the text of an operand is shorter -/
theorem str_le (F : Fo) : ∀ t, t ∈ trees F → t.str.length ≤ F.str.length := by
  have gen : ∀ (G : Fo), G ≠ .nil → (∀ t, t ∈ trees (tlF G) → t.str.length ≤ (tlF G).str.length) → ∀ t, t ∈ trees G → t.str.length ≤ G.str.length := by
    intro G hG ih t h
    have e := congrArg List.length (str_hd hG)
    rw [List.length_append] at e
    rw [trees_cons hG] at h
    rcases List.mem_cons.1 h with rfl | h
    · omega
    · have h1 := ih t h
      have h2 : (tlF G).str.length ≤ (tlF G).sep.length := by unfold str; simp
      omega
  induction F with
  | nil => intro t h; simp [trees] at h
  | leaf m r ih => exact gen (.leaf m r) (by simp) ih
  | gate k ops r _ ih => exact gen (.gate k ops r) (by simp) ih
theorem mem_bit {m : Nat} (h1 : 1 ≤ m) (h2 : m ≤ 6) : mem (bit m) = [(m : Int)] := by
  have hm : m = 1 ∨ m = 2 ∨ m = 3 ∨ m = 4 ∨ m = 5 ∨ m = 6 := by omega
  rcases hm with rfl | rfl | rfl | rfl | rfl | rfl <;> decide
theorem occ_leaf (m : Nat) : (Fo.leaf m .nil).occ = bit m := by simp [occ]
theorem occ_gate (k : Nat) (ops : Fo) : (Fo.gate k ops .nil).occ = ops.occ := by simp [occ]
end Go.Proofs.Ytnlmcbilhfmenaa
