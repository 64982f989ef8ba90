/- Plain mathematics of quorum expressions: forests of trees, their text, the parser. No program text. -/
import Derived.Test.YtnlmcbilhfmenaaM1
namespace Go.Proofs.Ytnlmcbilhfmenaa

/-- A list of expressions: none, or a first one (a member, or a threshold with its operands) and the others. -/
inductive Fo where
  | nil
  | leaf (m : Nat) (r : Fo)
  | gate (k : Nat) (ops r : Fo)

namespace Fo
def len : Fo → Nat
  | nil => 0
  | leaf _ r => r.len + 1
  | gate _ _ r => r.len + 1
def wf : Fo → Bool
  | nil => true
  | leaf m r => decide (1 ≤ m) && decide (m ≤ 6) && r.wf
  | gate k ops r => decide (1 ≤ k) && decide (k ≤ ops.len) && decide (ops.len ≤ 6) && ops.wf && r.wf
/-- how many of the trees a set satisfies -/
def cnt (c : Nat) : Fo → Nat
  | nil => 0
  | leaf m r => (if has c m then 1 else 0) + r.cnt c
  | gate k ops r => (if k ≤ ops.cnt c then 1 else 0) + r.cnt c
def occ : Fo → Nat
  | nil => 0
  | leaf m r => bit m ||| r.occ
  | gate _ ops r => ops.occ ||| r.occ
def dg (m : Nat) : UInt8 := UInt8.ofNat (48 + m)
/-- the text with a comma ahead of each tree -/
def sep : Fo → List UInt8
  | nil => []
  | leaf m r => 44 :: dg m :: r.sep
  | gate k ops r => 44 :: dg k :: 40 :: (ops.sep.tail ++ 41 :: r.sep)
def str (f : Fo) : List UInt8 := f.sep.tail
def app : Fo → Fo → Fo
  | nil, g => g
  | leaf m r, g => leaf m (r.app g)
  | gate k ops r, g => gate k ops (r.app g)
theorem app_nil (f : Fo) : f.app nil = f := by induction f with | nil => rfl | leaf m r ih => simp [app, ih] | gate k ops r _ ih => simp [app, ih]
theorem app_assoc (f g h : Fo) : (f.app g).app h = f.app (g.app h) := by
  induction f with | nil => rfl | leaf m r ih => simp [app, ih] | gate k ops r _ ih => simp [app, ih]
theorem app_len (f g : Fo) : (f.app g).len = f.len + g.len := by
  induction f with | nil => simp [app, len] | leaf m r ih => simp [app, len, ih]; omega | gate k ops r _ ih => simp [app, len, ih]; omega
theorem app_wf (f g : Fo) : (f.app g).wf = (f.wf && g.wf) := by
  induction f with | nil => simp [app, wf] | leaf m r ih => simp [app, wf, ih, Bool.and_assoc] | gate k ops r _ ih => simp [app, wf, ih, Bool.and_assoc]
theorem app_sep (f g : Fo) : (f.app g).sep = f.sep ++ g.sep := by
  induction f with | nil => simp [app, sep] | leaf m r ih => simp [app, sep, ih] | gate k ops r _ ih => simp [app, sep, ih]
theorem app_cnt (c : Nat) (f g : Fo) : (f.app g).cnt c = f.cnt c + g.cnt c := by
  induction f with | nil => simp [app, cnt] | leaf m r ih => simp [app, cnt, ih]; omega | gate k ops r _ ih => simp [app, cnt, ih]; omega
theorem app_occ (f g : Fo) : (f.app g).occ = f.occ ||| g.occ := by
  induction f with | nil => simp [app, occ] | leaf m r ih => simp [app, occ, ih, Nat.or_assoc] | gate k ops r _ ih => simp [app, occ, ih, Nat.or_assoc]
theorem cnt_le (c : Nat) (f : Fo) : f.cnt c ≤ f.len := by
  induction f with
  | nil => simp [cnt, len]
  | leaf m r ih => simp only [cnt, len]; split <;> omega
  | gate k ops r _ ih => simp only [cnt, len]; split <;> omega
theorem occ_lt (f : Fo) (h : f.wf = true) : f.occ < 64 := by
  induction f with
  | nil => simp [occ]
  | leaf m r ih =>
    simp only [wf, Bool.and_eq_true, decide_eq_true_eq] at h
    refine or_lt ?_ (ih h.2)
    have hm : m = 1 ∨ m = 2 ∨ m = 3 ∨ m = 4 ∨ m = 5 ∨ m = 6 := by omega
    rcases hm with rfl | rfl | rfl | rfl | rfl | rfl <;> decide
  | gate k ops r ih1 ih2 =>
    simp only [wf, Bool.and_eq_true, decide_eq_true_eq] at h
    exact or_lt (ih1 h.1.2) (ih2 h.2)
/-- one tree: its text begins with a digit -/
theorem sep_str {f : Fo} (h : f ≠ nil) : f.sep = 44 :: f.str := by
  cases f with
  | nil => exact absurd rfl h
  | leaf m r => rfl
  | gate k ops r => rfl
theorem ne_nil {f : Fo} (h : 0 < f.len) : f ≠ nil := by rintro rfl; simp [len] at h
theorem str_app {f g : Fo} (hf : f ≠ nil) (hg : g ≠ nil) : (f.app g).str = f.str ++ 44 :: g.str := by
  unfold str
  rw [app_sep, sep_str hf, sep_str hg]; rfl
end Fo
open Fo

/-- is this byte a digit from 1 to 6? -/
def isDg (b : UInt8) : Bool := decide (49 ≤ b.toNat) && decide (b.toNat ≤ 54)
def dgv (b : UInt8) : Nat := b.toNat - 48
theorem dgv_dg {m : Nat} (h1 : 1 ≤ m) (h2 : m ≤ 6) : dgv (dg m) = m ∧ isDg (dg m) = true := by
  have hm : m = 1 ∨ m = 2 ∨ m = 3 ∨ m = 4 ∨ m = 5 ∨ m = 6 := by omega
  rcases hm with rfl | rfl | rfl | rfl | rfl | rfl <;> decide
theorem dg_dgv {b : UInt8} (h : isDg b = true) : dg (dgv b) = b ∧ 1 ≤ dgv b ∧ dgv b ≤ 6 := by
  simp only [isDg, Bool.and_eq_true, decide_eq_true_eq] at h
  refine ⟨?_, by unfold dgv; omega, by unfold dgv; omega⟩
  unfold dg dgv
  rw [show 48 + (b.toNat - 48) = b.toNat from by omega]
  exact UInt8.ofNat_toNat

mutual
/-- an expression at the head of a text: its tree and what is left -/
def pe : Nat → List UInt8 → Option (Fo × List UInt8)
  | 0, _ => none
  | _ + 1, [] => none
  | n + 1, b :: r =>
    if isDg b then
      (if r.head? = some 40 then
        (match pl n r.tail .nil with
         | none => none
         | some (ops, r') => if ops.len ≤ 6 ∧ dgv b ≤ ops.len then some (.gate (dgv b) ops .nil, r') else none)
       else some (.leaf (dgv b) .nil, r))
    else none
/-- the operands up to the closing parenthesis, behind those that are read -/
def pl : Nat → List UInt8 → Fo → Option (Fo × List UInt8)
  | 0, _, _ => none
  | n + 1, s, acc =>
    match pe n s with
    | none => none
    | some (t, r) =>
      if r.head? = some 41 then some (acc.app t, r.tail)
      else if r.head? = some 44 then pl n r.tail (acc.app t)
      else none
end

theorem pe_succ (n : Nat) (b : UInt8) (r : List UInt8) : pe (n + 1) (b :: r) =
    if isDg b then
      (if r.head? = some 40 then
        (match pl n r.tail .nil with
         | none => none
         | some (ops, r') => if ops.len ≤ 6 ∧ dgv b ≤ ops.len then some (.gate (dgv b) ops .nil, r') else none)
       else some (.leaf (dgv b) .nil, r))
    else none := by rw [pe]
theorem pl_succ (n : Nat) (s : List UInt8) (acc : Fo) : pl (n + 1) s acc =
    match pe n s with
    | none => none
    | some (t, r) =>
      if r.head? = some 41 then some (acc.app t, r.tail)
      else if r.head? = some 44 then pl n r.tail (acc.app t)
      else none := by rw [pl]
theorem head_tail {r : List UInt8} {x : UInt8} (h : r.head? = some x) : r = x :: r.tail := by
  cases r with
  | nil => simp at h
  | cons y t => simp at h; subst h; rfl

theorem pe_len (n : Nat) : (∀ s t r, pe n s = some (t, r) → r.length < s.length) ∧ (∀ s acc f r, pl n s acc = some (f, r) → r.length < s.length) := by
  induction n with
  | zero => exact ⟨fun s t r h => by simp [pe] at h, fun s acc f r h => by simp [pl] at h⟩
  | succ n ih =>
    refine ⟨fun s t r h => ?_, fun s acc f r h => ?_⟩
    · cases s with
      | nil => simp [pe] at h
      | cons b q =>
        simp only [pe] at h
        by_cases hb : isDg b = true
        · rw [if_pos hb] at h
          by_cases hq : q.head? = some 40
          · rw [if_pos hq] at h
            cases hp : pl n q.tail .nil with
            | none => rw [hp] at h; simp at h
            | some x =>
              obtain ⟨ops, r'⟩ := x
              rw [hp] at h
              simp only at h
              split at h
              · simp only [Option.some.injEq, Prod.mk.injEq] at h
                obtain ⟨_, rfl⟩ := h
                have := ih.2 _ _ _ _ hp
                have := congrArg List.length (head_tail hq)
                simp only [List.length_cons] at *
                omega
              · cases h
          · rw [if_neg hq] at h
            simp only [Option.some.injEq, Prod.mk.injEq] at h
            obtain ⟨_, rfl⟩ := h
            simp
        · rw [if_neg hb] at h; cases h
    · simp only [pl] at h
      cases hp : pe n s with
      | none => rw [hp] at h; simp at h
      | some x =>
        obtain ⟨t, q⟩ := x
        rw [hp] at h
        have h1 := ih.1 _ _ _ hp
        simp only at h
        by_cases h41 : q.head? = some 41
        · rw [if_pos h41] at h
          simp only [Option.some.injEq, Prod.mk.injEq] at h
          have := congrArg List.length (head_tail h41)
          simp only [List.length_cons] at *
          rw [← h.2]; omega
        · rw [if_neg h41] at h
          by_cases h44 : q.head? = some 44
          · rw [if_pos h44] at h
            have h2 := ih.2 _ _ _ _ h
            have := congrArg List.length (head_tail h44)
            simp only [List.length_cons] at *
            omega
          · rw [if_neg h44] at h; cases h

theorem pe_fuel (n : Nat) : (∀ s m, 2 * s.length + 1 ≤ n → n ≤ m → pe n s = pe m s) ∧ (∀ s acc m, 2 * s.length + 2 ≤ n → n ≤ m → pl n s acc = pl m s acc) := by
  induction n with
  | zero => exact ⟨fun s m h => by omega, fun s acc m h => by omega⟩
  | succ n ih =>
    refine ⟨fun s m h hm => ?_, fun s acc m h hm => ?_⟩
    · obtain ⟨m, rfl⟩ : ∃ k, m = k + 1 := ⟨m - 1, by omega⟩
      cases s with
      | nil => simp [pe]
      | cons b q =>
        simp only [pe]
        by_cases hq : q.head? = some 40
        · have := congrArg List.length (head_tail hq)
          simp only [List.length_cons] at *
          rw [ih.2 q.tail .nil m (by omega) (by omega)]
        · simp only [if_neg hq]
    · obtain ⟨m, rfl⟩ : ∃ k, m = k + 1 := ⟨m - 1, by omega⟩
      simp only [pl]
      rw [← ih.1 s m (by omega) (by omega)]
      cases hp : pe n s with
      | none => rfl
      | some x =>
        obtain ⟨t, q⟩ := x
        have h1 := (pe_len n).1 _ _ _ hp
        simp only
        by_cases h44 : q.head? = some 44
        · have := congrArg List.length (head_tail h44)
          simp only [List.length_cons] at *
          rw [ih.2 q.tail _ m (by omega) (by omega)]
        · simp only [if_neg h44]

/-- the parser at enough fuel -/
def px (s : List UInt8) : Option (Fo × List UInt8) := pe (2 * s.length + 1) s
def pm (s : List UInt8) (acc : Fo) : Option (Fo × List UInt8) := pl (2 * s.length + 2) s acc
theorem px_nil : px [] = none := rfl
theorem px_cons (b : UInt8) (r : List UInt8) : px (b :: r) =
    if isDg b then
      (if r.head? = some 40 then
        (match pm r.tail .nil with
         | none => none
         | some (ops, r') => if ops.len ≤ 6 ∧ dgv b ≤ ops.len then some (.gate (dgv b) ops .nil, r') else none)
       else some (.leaf (dgv b) .nil, r))
    else none := by
  unfold px
  rw [show 2 * (b :: r).length + 1 = (2 * r.length + 2) + 1 from by simp; omega]
  rw [pe_succ]
  unfold pm
  by_cases hq : r.head? = some 40
  · have := congrArg List.length (head_tail hq)
    simp only [List.length_cons] at this
    rw [(pe_fuel (2 * r.tail.length + 2)).2 r.tail .nil (2 * r.length + 2) (by omega) (by omega)]
  · simp only [if_neg hq]
theorem pm_eq (s : List UInt8) (acc : Fo) : pm s acc =
    match px s with
    | none => none
    | some (t, r) =>
      if r.head? = some 41 then some (acc.app t, r.tail)
      else if r.head? = some 44 then pm r.tail (acc.app t)
      else none := by
  unfold pm px
  conv => lhs; rw [show 2 * s.length + 2 = (2 * s.length + 1) + 1 from by omega, pl_succ]
  cases hp : pe (2 * s.length + 1) s with
  | none => rfl
  | some x =>
    obtain ⟨t, q⟩ := x
    have h1 := (pe_len _).1 _ _ _ hp
    simp only
    by_cases h44 : q.head? = some 44
    · have := congrArg List.length (head_tail h44)
      simp only [List.length_cons] at this
      rw [(pe_fuel (2 * q.tail.length + 2)).2 q.tail (acc.app t) (2 * s.length + 1) (by omega) (by omega)]
    · simp only [if_neg h44]
theorem px_len {s r : List UInt8} {t : Fo} (h : px s = some (t, r)) : r.length < s.length := (pe_len _).1 _ _ _ h

/-- SOUND: what is parsed is the text of a well-formed tree -/
theorem pe_sound (n : Nat) : (∀ s t r, pe n s = some (t, r) → s = t.str ++ r ∧ t.wf = true ∧ t.len = 1) ∧
    (∀ s acc f r, pl n s acc = some (f, r) → ∃ g, f = acc.app g ∧ 0 < g.len ∧ g.wf = true ∧ s = g.str ++ 41 :: r) := by
  induction n with
  | zero => exact ⟨fun s t r h => by simp [pe] at h, fun s acc f r h => by simp [pl] at h⟩
  | succ n ih =>
    refine ⟨fun s t r h => ?_, fun s acc f r h => ?_⟩
    · cases s with
      | nil => simp [pe] at h
      | cons b q =>
        simp only [pe] at h
        by_cases hb : isDg b = true
        · rw [if_pos hb] at h
          have hd := dg_dgv hb
          by_cases hq : q.head? = some 40
          · rw [if_pos hq] at h
            cases hp : pl n q.tail .nil with
            | none => rw [hp] at h; simp at h
            | some x =>
              obtain ⟨ops, r'⟩ := x
              rw [hp] at h
              obtain ⟨g, hg, hg0, hgw, hs⟩ := ih.2 _ _ _ _ hp
              have hg' : ops = g := hg
              subst hg'
              simp only at h
              split at h
              · rename_i hc
                simp only [Option.some.injEq, Prod.mk.injEq] at h
                obtain ⟨rfl, rfl⟩ := h
                refine ⟨?_, ?_, rfl⟩
                · rw [head_tail hq, hs]
                  show _ = (dg (dgv b) :: 40 :: (ops.sep.tail ++ 41 :: [])) ++ r'
                  rw [hd.1]; simp [str]
                · simp only [wf, Bool.and_eq_true, decide_eq_true_eq]
                  exact ⟨⟨⟨⟨hd.2.1, hc.2⟩, hc.1⟩, hgw⟩, trivial⟩
              · cases h
          · rw [if_neg hq] at h
            simp only [Option.some.injEq, Prod.mk.injEq] at h
            obtain ⟨rfl, rfl⟩ := h
            refine ⟨?_, ?_, rfl⟩
            · show _ = [dg (dgv b)] ++ q
              rw [hd.1]; rfl
            · simp only [wf, Bool.and_eq_true, decide_eq_true_eq]
              exact ⟨hd.2, trivial⟩
        · rw [if_neg hb] at h; cases h
    · simp only [pl] at h
      cases hp : pe n s with
      | none => rw [hp] at h; simp at h
      | some x =>
        obtain ⟨t, q⟩ := x
        rw [hp] at h
        obtain ⟨h1, h2, h3⟩ := ih.1 _ _ _ hp
        simp only at h
        by_cases h41 : q.head? = some 41
        · rw [if_pos h41] at h
          simp only [Option.some.injEq, Prod.mk.injEq] at h
          obtain ⟨rfl, rfl⟩ := h
          exact ⟨t, rfl, by omega, h2, by rw [← head_tail h41]; exact h1⟩
        · rw [if_neg h41] at h
          by_cases h44 : q.head? = some 44
          · rw [if_pos h44] at h
            obtain ⟨g, hg, hg0, hgw, hs⟩ := ih.2 _ _ _ _ h
            refine ⟨t.app g, by rw [hg, app_assoc], by rw [app_len]; omega, by rw [app_wf, h2, hgw]; rfl, ?_⟩
            rw [str_app (ne_nil (by omega)) (ne_nil hg0), h1]
            conv => lhs; rw [head_tail h44, hs]
            simp
          · rw [if_neg h44] at h; cases h
theorem px_sound {s r : List UInt8} {t : Fo} (h : px s = some (t, r)) : s = t.str ++ r ∧ t.wf = true ∧ t.len = 1 := (pe_sound _).1 _ _ _ h
theorem pm_sound {s r : List UInt8} {acc f : Fo} (h : pm s acc = some (f, r)) : ∃ g, f = acc.app g ∧ 0 < g.len ∧ g.wf = true ∧ s = g.str ++ 41 :: r := (pe_sound _).2 _ _ _ _ h

theorem pm_none {s : List UInt8} (acc : Fo) (h : px s = none) : pm s acc = none := by rw [pm_eq, h]
theorem pm_end {s r : List UInt8} {t : Fo} (acc : Fo) (h : px s = some (t, 41 :: r)) : pm s acc = some (acc.app t, r) := by
  rw [pm_eq, h]; simp
theorem pm_next {s r : List UInt8} {t : Fo} (acc : Fo) (h : px s = some (t, 44 :: r)) : pm s acc = pm r (acc.app t) := by
  rw [pm_eq, h]; simp
theorem pm_other {s r : List UInt8} {t : Fo} (acc : Fo) (h : px s = some (t, r)) (h1 : r.head? ≠ some 41) (h2 : r.head? ≠ some 44) : pm s acc = none := by
  rw [pm_eq, h]; simp only [if_neg h1, if_neg h2]
theorem px_leaf (m : Nat) (r : List UInt8) (h1 : 1 ≤ m) (h2 : m ≤ 6) (hr : r.head? ≠ some 40) : px (dg m :: r) = some (.leaf m .nil, r) := by
  obtain ⟨hd1, hd2⟩ := dgv_dg h1 h2
  rw [px_cons, if_pos hd2, if_neg hr, hd1]
theorem px_paren (k : Nat) (s r : List UInt8) (ops : Fo) (h1 : 1 ≤ k) (h6 : k ≤ 6) (hp : pm s .nil = some (ops, r)) : px (dg k :: 40 :: s) = if ops.len ≤ 6 ∧ k ≤ ops.len then some (.gate k ops .nil, r) else none := by
  obtain ⟨hd1, hd2⟩ := dgv_dg h1 h6
  rw [px_cons, if_pos hd2, if_pos (by rfl), List.tail_cons, hp, hd1]
theorem px_paren_none (k : Nat) (s : List UInt8) (h1 : 1 ≤ k) (h6 : k ≤ 6) (hp : pm s .nil = none) : px (dg k :: 40 :: s) = none := by
  obtain ⟨hd1, hd2⟩ := dgv_dg h1 h6
  rw [px_cons, if_pos hd2, if_pos (by rfl), List.tail_cons, hp]
theorem px_bad (b : UInt8) (r : List UInt8) (h : isDg b = false) : px (b :: r) = none := by
  rw [px_cons, if_neg (by rw [h]; simp)]

/-- COMPLETE: the text of a well-formed forest is parsed -/
theorem pm_complete (f : Fo) : f.wf = true → f ≠ .nil → ∀ acc r, pm (f.str ++ 41 :: r) acc = some (acc.app f, r) := by
  induction f with
  | nil => intro _ h; exact absurd rfl h
  | leaf m q ih =>
    intro hw _ acc r
    simp only [wf, Bool.and_eq_true, decide_eq_true_eq] at hw
    have e : (Fo.leaf m q).str ++ 41 :: r = dg m :: (q.sep ++ 41 :: r) := rfl
    rw [e]
    by_cases hq : q = .nil
    · subst hq
      exact pm_end acc (px_leaf m _ hw.1.1 hw.1.2 (by simp [sep]))
    · rw [sep_str hq, List.cons_append]
      rw [pm_next acc (px_leaf m (44 :: (q.str ++ 41 :: r)) hw.1.1 hw.1.2 (by simp)), ih hw.2 hq, app_assoc]; rfl
  | gate k ops q ih1 ih2 =>
    intro hw _ acc r
    simp only [wf, Bool.and_eq_true, decide_eq_true_eq] at hw
    obtain ⟨⟨⟨⟨h1, h2⟩, h3⟩, h4⟩, h5⟩ := hw
    have e : (Fo.gate k ops q).str ++ 41 :: r = dg k :: 40 :: (ops.str ++ 41 :: (q.sep ++ 41 :: r)) := by
      show (dg k :: 40 :: (ops.sep.tail ++ 41 :: q.sep)) ++ 41 :: r = _
      simp [str]
    have hp : px (dg k :: 40 :: (ops.str ++ 41 :: (q.sep ++ 41 :: r))) = some (.gate k ops .nil, q.sep ++ 41 :: r) := by
      rw [px_paren k _ _ ops h1 (by omega) (ih1 h4 (ne_nil (by omega)) .nil _), if_pos ⟨h3, h2⟩]
    rw [e]
    by_cases hq : q = .nil
    · subst hq
      exact pm_end acc hp
    · rw [sep_str hq] at hp ⊢
      rw [List.cons_append] at hp ⊢
      rw [pm_next acc hp, ih2 h5 hq, app_assoc]; rfl
theorem px_gate (k : Nat) (ops : Fo) (r : List UInt8) (h : (Fo.gate k ops .nil).wf = true) : px ((Fo.gate k ops .nil).str ++ r) = some (.gate k ops .nil, r) := by
  simp only [wf, Bool.and_eq_true, decide_eq_true_eq] at h
  obtain ⟨⟨⟨⟨h1, h2⟩, h3⟩, h4⟩, _⟩ := h
  have e : (Fo.gate k ops .nil).str ++ r = dg k :: 40 :: (ops.str ++ 41 :: r) := by
    show (dg k :: 40 :: (ops.sep.tail ++ 41 :: [])) ++ r = _
    simp [str]
  rw [e, px_paren k _ _ ops h1 (by omega) (pm_complete ops h4 (ne_nil (by omega)) .nil _), if_pos ⟨h3, h2⟩]
/-- one tree, and what may follow it -/
theorem px_tree (t : Fo) (r : List UInt8) (hw : t.wf = true) (hl : t.len = 1) (hr : r.head? ≠ some 40) : px (t.str ++ r) = some (t, r) := by
  cases t with
  | nil => simp [len] at hl
  | leaf m q =>
    cases q with
    | nil =>
      simp only [wf, Bool.and_eq_true, decide_eq_true_eq] at hw
      exact px_leaf m r hw.1.1 hw.1.2 hr
    | leaf _ _ => simp [len] at hl
    | gate _ _ _ => simp [len] at hl
  | gate k ops q =>
    cases q with
    | nil => exact px_gate k ops r hw
    | leaf _ _ => simp [len] at hl
    | gate _ _ _ => simp [len] at hl

/-- the expression that a text is -/
def ex (s : List UInt8) : Option Fo :=
  if s.length ≤ 40 then
    match px s with
    | some (t, []) => some t
    | _ => none
  else none
theorem ex_some {s : List UInt8} {t : Fo} (h : ex s = some t) : s = t.str ∧ t.wf = true ∧ t.len = 1 ∧ s.length ≤ 40 ∧ px s = some (t, []) := by
  unfold ex at h
  split at h
  · rename_i hl
    cases hp : px s with
    | none => rw [hp] at h; cases h
    | some x =>
      obtain ⟨u, r⟩ := x
      rw [hp] at h
      cases r with
      | nil =>
        simp only [Option.some.injEq] at h
        subst h
        obtain ⟨h1, h2, h3⟩ := px_sound hp
        exact ⟨by simpa using h1, h2, h3, hl, rfl⟩
      | cons _ _ => cases h
  · cases h
theorem ex_str {t : Fo} (hw : t.wf = true) (hl : t.len = 1) (hs : t.str.length ≤ 40) : ex t.str = some t := by
  unfold ex
  have := px_tree t [] hw hl (by simp)
  rw [List.append_nil] at this
  rw [if_pos hs, this]
/-- does a set satisfy an expression? -/
def sat (c : Nat) (t : Fo) : Bool := decide (1 ≤ t.cnt c)
theorem sat_leaf (c m : Nat) : sat c (.leaf m .nil) = has c m := by
  unfold sat; cases h : has c m <;> simp [cnt, h]
theorem sat_gate (c k : Nat) (ops : Fo) : sat c (.gate k ops .nil) = decide (k ≤ ops.cnt c) := by
  unfold sat; by_cases h : k ≤ ops.cnt c <;> simp [cnt, h]
def okE (s : List UInt8) : Bool := (ex s).isSome
def occE (s : List UInt8) : Nat := match ex s with | some t => t.occ | none => 0
def satE (s : List UInt8) (c : Nat) : Bool := match ex s with | some t => sat c t | none => false
/-- ExprMembers, ExprSatisfied -/
def membersE (s : List UInt8) : List Int := if okE s then mem (occE s) else []
def satisfiedE (s : List UInt8) (xs : List Int) : Bool := okE s && (valid xs && satE s (mask xs))
theorem occE_lt (s : List UInt8) : occE s < 64 := by
  unfold occE
  cases h : ex s with
  | none => decide
  | some t => exact occ_lt t (ex_some h).2.1
end Go.Proofs.Ytnlmcbilhfmenaa
