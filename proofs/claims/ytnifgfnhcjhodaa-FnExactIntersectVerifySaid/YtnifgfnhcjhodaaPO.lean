/- XPO: several texts in one. Conditions: each lemma's own. -/
import Derived.Test.YtnifgfnhcjhodaaPM


namespace Go.Proofs.Ytnifgfnhcjhodaa

/-- A list of expressions: none, or a first one (a member, or a threshold with its operands) and the others. -/
inductive Fo where
  | nil
  | leaf (m : Nat) (r : Fo)
  | gate (k : Nat) (ops r : Fo)

namespace Fo
def len : Fo → Nat
  | nil => 0
  | leaf _ r => r.len + 1
  | gate _ _ r => r.len + 1
def wf : Fo → Bool
  | nil => true
  | leaf m r => decide (1 ≤ m) && decide (m ≤ 6) && r.wf
  | gate k ops r => decide (1 ≤ k) && decide (k ≤ ops.len) && decide (ops.len ≤ 6) && ops.wf && r.wf
/-- how many of the trees a set satisfies -/
def cnt (c : Nat) : Fo → Nat
  | nil => 0
  | leaf m r => (if has c m then 1 else 0) + r.cnt c
  | gate k ops r => (if k ≤ ops.cnt c then 1 else 0) + r.cnt c
def occ : Fo → Nat
  | nil => 0
  | leaf m r => bit m ||| r.occ
  | gate _ ops r => ops.occ ||| r.occ
def dg (m : Nat) : UInt8 := UInt8.ofNat (48 + m)
/-- the text with a comma ahead of each tree -/
def sep : Fo → List UInt8
  | nil => []
  | leaf m r => 44 :: dg m :: r.sep
  | gate k ops r => 44 :: dg k :: 40 :: (ops.sep.tail ++ 41 :: r.sep)
def str (f : Fo) : List UInt8 := f.sep.tail
def app : Fo → Fo → Fo
  | nil, g => g
  | leaf m r, g => leaf m (r.app g)
  | gate k ops r, g => gate k ops (r.app g)
theorem app_nil (f : Fo) : f.app nil = f := by induction f with | nil => rfl | leaf m r ih => simp [app, ih] | gate k ops r _ ih => simp [app, ih]
theorem app_assoc (f g h : Fo) : (f.app g).app h = f.app (g.app h) := by
  induction f with | nil => rfl | leaf m r ih => simp [app, ih] | gate k ops r _ ih => simp [app, ih]
theorem app_len (f g : Fo) : (f.app g).len = f.len + g.len := by
  induction f with | nil => simp [app, len] | leaf m r ih => simp [app, len, ih]; omega | gate k ops r _ ih => simp [app, len, ih]; omega
theorem app_wf (f g : Fo) : (f.app g).wf = (f.wf && g.wf) := by
  induction f with | nil => simp [app, wf] | leaf m r ih => simp [app, wf, ih, Bool.and_assoc] | gate k ops r _ ih => simp [app, wf, ih, Bool.and_assoc]
theorem app_sep (f g : Fo) : (f.app g).sep = f.sep ++ g.sep := by
  induction f with | nil => simp [app, sep] | leaf m r ih => simp [app, sep, ih] | gate k ops r _ ih => simp [app, sep, ih]
theorem app_cnt (c : Nat) (f g : Fo) : (f.app g).cnt c = f.cnt c + g.cnt c := by
  induction f with | nil => simp [app, cnt] | leaf m r ih => simp [app, cnt, ih]; omega | gate k ops r _ ih => simp [app, cnt, ih]; omega
theorem app_occ (f g : Fo) : (f.app g).occ = f.occ ||| g.occ := by
  induction f with | nil => simp [app, occ] | leaf m r ih => simp [app, occ, ih, Nat.or_assoc] | gate k ops r _ ih => simp [app, occ, ih, Nat.or_assoc]
theorem cnt_le (c : Nat) (f : Fo) : f.cnt c ≤ f.len := by
  induction f with
  | nil => simp [cnt, len]
  | leaf m r ih => simp only [cnt, len]; split <;> omega
  | gate k ops r _ ih => simp only [cnt, len]; split <;> omega
theorem occ_lt (f : Fo) (h : f.wf = true) : f.occ < 64 := by
  induction f with
  | nil => simp [occ]
  | leaf m r ih =>
    simp only [wf, Bool.and_eq_true, decide_eq_true_eq] at h
    refine or_lt ?_ (ih h.2)
    have hm : m = 1 ∨ m = 2 ∨ m = 3 ∨ m = 4 ∨ m = 5 ∨ m = 6 := by omega
    rcases hm with rfl | rfl | rfl | rfl | rfl | rfl <;> decide
  | gate k ops r ih1 ih2 =>
    simp only [wf, Bool.and_eq_true, decide_eq_true_eq] at h
    exact or_lt (ih1 h.1.2) (ih2 h.2)
/-- one tree: its text begins with a digit -/
theorem sep_str {f : Fo} (h : f ≠ nil) : f.sep = 44 :: f.str := by
  cases f with
  | nil => exact absurd rfl h
  | leaf m r => rfl
  | gate k ops r => rfl
theorem ne_nil {f : Fo} (h : 0 < f.len) : f ≠ nil := by rintro rfl; simp [len] at h
theorem str_app {f g : Fo} (hf : f ≠ nil) (hg : g ≠ nil) : (f.app g).str = f.str ++ 44 :: g.str := by
  unfold str
  rw [app_sep, sep_str hf, sep_str hg]; rfl
end Fo
open Fo

/-- is this byte a digit from 1 to 6? -/
def isDg (b : UInt8) : Bool := decide (49 ≤ b.toNat) && decide (b.toNat ≤ 54)
def dgv (b : UInt8) : Nat := b.toNat - 48
theorem dgv_dg {m : Nat} (h1 : 1 ≤ m) (h2 : m ≤ 6) : dgv (dg m) = m ∧ isDg (dg m) = true := by
  have hm : m = 1 ∨ m = 2 ∨ m = 3 ∨ m = 4 ∨ m = 5 ∨ m = 6 := by omega
  rcases hm with rfl | rfl | rfl | rfl | rfl | rfl <;> decide
theorem dg_dgv {b : UInt8} (h : isDg b = true) : dg (dgv b) = b ∧ 1 ≤ dgv b ∧ dgv b ≤ 6 := by
  simp only [isDg, Bool.and_eq_true, decide_eq_true_eq] at h
  refine ⟨?_, by unfold dgv; omega, by unfold dgv; omega⟩
  unfold dg dgv
  rw [show 48 + (b.toNat - 48) = b.toNat from by omega]
  exact UInt8.ofNat_toNat

mutual
/-- an expression at the head of a text: its tree and what is left -/
def pe : Nat → List UInt8 → Option (Fo × List UInt8)
  | 0, _ => none
  | _ + 1, [] => none
  | n + 1, b :: r =>
    if isDg b then
      (if r.head? = some 40 then
        (match pl n r.tail .nil with
         | none => none
         | some (ops, r') => if ops.len ≤ 6 ∧ dgv b ≤ ops.len then some (.gate (dgv b) ops .nil, r') else none)
       else some (.leaf (dgv b) .nil, r))
    else none
/-- the operands up to the closing parenthesis, behind those that are read -/
def pl : Nat → List UInt8 → Fo → Option (Fo × List UInt8)
  | 0, _, _ => none
  | n + 1, s, acc =>
    match pe n s with
    | none => none
    | some (t, r) =>
      if r.head? = some 41 then some (acc.app t, r.tail)
      else if r.head? = some 44 then pl n r.tail (acc.app t)
      else none
end

theorem pe_succ (n : Nat) (b : UInt8) (r : List UInt8) : pe (n + 1) (b :: r) =
    if isDg b then
      (if r.head? = some 40 then
        (match pl n r.tail .nil with
         | none => none
         | some (ops, r') => if ops.len ≤ 6 ∧ dgv b ≤ ops.len then some (.gate (dgv b) ops .nil, r') else none)
       else some (.leaf (dgv b) .nil, r))
    else none := by rw [pe]
theorem pl_succ (n : Nat) (s : List UInt8) (acc : Fo) : pl (n + 1) s acc =
    match pe n s with
    | none => none
    | some (t, r) =>
      if r.head? = some 41 then some (acc.app t, r.tail)
      else if r.head? = some 44 then pl n r.tail (acc.app t)
      else none := by rw [pl]
theorem head_tail {r : List UInt8} {x : UInt8} (h : r.head? = some x) : r = x :: r.tail := by
  cases r with
  | nil => simp at h
  | cons y t => simp at h; subst h; rfl

theorem pe_len (n : Nat) : (∀ s t r, pe n s = some (t, r) → r.length < s.length) ∧ (∀ s acc f r, pl n s acc = some (f, r) → r.length < s.length) := by
  induction n with
  | zero => exact ⟨fun s t r h => by simp [pe] at h, fun s acc f r h => by simp [pl] at h⟩
  | succ n ih =>
    refine ⟨fun s t r h => ?_, fun s acc f r h => ?_⟩
    · cases s with
      | nil => simp [pe] at h
      | cons b q =>
        simp only [pe] at h
        by_cases hb : isDg b = true
        · rw [if_pos hb] at h
          by_cases hq : q.head? = some 40
          · rw [if_pos hq] at h
            cases hp : pl n q.tail .nil with
            | none => rw [hp] at h; simp at h
            | some x =>
              obtain ⟨ops, r'⟩ := x
              rw [hp] at h
              simp only at h
              split at h
              · simp only [Option.some.injEq, Prod.mk.injEq] at h
                obtain ⟨_, rfl⟩ := h
                have := ih.2 _ _ _ _ hp
                have := congrArg List.length (head_tail hq)
                simp only [List.length_cons] at *
                omega
              · cases h
          · rw [if_neg hq] at h
            simp only [Option.some.injEq, Prod.mk.injEq] at h
            obtain ⟨_, rfl⟩ := h
            simp
        · rw [if_neg hb] at h; cases h
    · simp only [pl] at h
      cases hp : pe n s with
      | none => rw [hp] at h; simp at h
      | some x =>
        obtain ⟨t, q⟩ := x
        rw [hp] at h
        have h1 := ih.1 _ _ _ hp
        simp only at h
        by_cases h41 : q.head? = some 41
        · rw [if_pos h41] at h
          simp only [Option.some.injEq, Prod.mk.injEq] at h
          have := congrArg List.length (head_tail h41)
          simp only [List.length_cons] at *
          rw [← h.2]; omega
        · rw [if_neg h41] at h
          by_cases h44 : q.head? = some 44
          · rw [if_pos h44] at h
            have h2 := ih.2 _ _ _ _ h
            have := congrArg List.length (head_tail h44)
            simp only [List.length_cons] at *
            omega
          · rw [if_neg h44] at h; cases h

theorem pe_fuel (n : Nat) : (∀ s m, 2 * s.length + 1 ≤ n → n ≤ m → pe n s = pe m s) ∧ (∀ s acc m, 2 * s.length + 2 ≤ n → n ≤ m → pl n s acc = pl m s acc) := by
  induction n with
  | zero => exact ⟨fun s m h => by omega, fun s acc m h => by omega⟩
  | succ n ih =>
    refine ⟨fun s m h hm => ?_, fun s acc m h hm => ?_⟩
    · obtain ⟨m, rfl⟩ : ∃ k, m = k + 1 := ⟨m - 1, by omega⟩
      cases s with
      | nil => simp [pe]
      | cons b q =>
        simp only [pe]
        by_cases hq : q.head? = some 40
        · have := congrArg List.length (head_tail hq)
          simp only [List.length_cons] at *
          rw [ih.2 q.tail .nil m (by omega) (by omega)]
        · simp only [if_neg hq]
    · obtain ⟨m, rfl⟩ : ∃ k, m = k + 1 := ⟨m - 1, by omega⟩
      simp only [pl]
      rw [← ih.1 s m (by omega) (by omega)]
      cases hp : pe n s with
      | none => rfl
      | some x =>
        obtain ⟨t, q⟩ := x
        have h1 := (pe_len n).1 _ _ _ hp
        simp only
        by_cases h44 : q.head? = some 44
        · have := congrArg List.length (head_tail h44)
          simp only [List.length_cons] at *
          rw [ih.2 q.tail _ m (by omega) (by omega)]
        · simp only [if_neg h44]

/-- the parser at enough fuel -/
def px (s : List UInt8) : Option (Fo × List UInt8) := pe (2 * s.length + 1) s
def pm (s : List UInt8) (acc : Fo) : Option (Fo × List UInt8) := pl (2 * s.length + 2) s acc
theorem px_nil : px [] = none := rfl
theorem px_cons (b : UInt8) (r : List UInt8) : px (b :: r) =
    if isDg b then
      (if r.head? = some 40 then
        (match pm r.tail .nil with
         | none => none
         | some (ops, r') => if ops.len ≤ 6 ∧ dgv b ≤ ops.len then some (.gate (dgv b) ops .nil, r') else none)
       else some (.leaf (dgv b) .nil, r))
    else none := by
  unfold px
  rw [show 2 * (b :: r).length + 1 = (2 * r.length + 2) + 1 from by simp; omega]
  rw [pe_succ]
  unfold pm
  by_cases hq : r.head? = some 40
  · have := congrArg List.length (head_tail hq)
    simp only [List.length_cons] at this
    rw [(pe_fuel (2 * r.tail.length + 2)).2 r.tail .nil (2 * r.length + 2) (by omega) (by omega)]
  · simp only [if_neg hq]
theorem pm_eq (s : List UInt8) (acc : Fo) : pm s acc =
    match px s with
    | none => none
    | some (t, r) =>
      if r.head? = some 41 then some (acc.app t, r.tail)
      else if r.head? = some 44 then pm r.tail (acc.app t)
      else none := by
  unfold pm px
  conv => lhs; rw [show 2 * s.length + 2 = (2 * s.length + 1) + 1 from by omega, pl_succ]
  cases hp : pe (2 * s.length + 1) s with
  | none => rfl
  | some x =>
    obtain ⟨t, q⟩ := x
    have h1 := (pe_len _).1 _ _ _ hp
    simp only
    by_cases h44 : q.head? = some 44
    · have := congrArg List.length (head_tail h44)
      simp only [List.length_cons] at this
      rw [(pe_fuel (2 * q.tail.length + 2)).2 q.tail (acc.app t) (2 * s.length + 1) (by omega) (by omega)]
    · simp only [if_neg h44]
theorem px_len {s r : List UInt8} {t : Fo} (h : px s = some (t, r)) : r.length < s.length := (pe_len _).1 _ _ _ h

/-- SOUND: what is parsed is the text of a well-formed tree -/
theorem pe_sound (n : Nat) : (∀ s t r, pe n s = some (t, r) → s = t.str ++ r ∧ t.wf = true ∧ t.len = 1) ∧
    (∀ s acc f r, pl n s acc = some (f, r) → ∃ g, f = acc.app g ∧ 0 < g.len ∧ g.wf = true ∧ s = g.str ++ 41 :: r) := by
  induction n with
  | zero => exact ⟨fun s t r h => by simp [pe] at h, fun s acc f r h => by simp [pl] at h⟩
  | succ n ih =>
    refine ⟨fun s t r h => ?_, fun s acc f r h => ?_⟩
    · cases s with
      | nil => simp [pe] at h
      | cons b q =>
        simp only [pe] at h
        by_cases hb : isDg b = true
        · rw [if_pos hb] at h
          have hd := dg_dgv hb
          by_cases hq : q.head? = some 40
          · rw [if_pos hq] at h
            cases hp : pl n q.tail .nil with
            | none => rw [hp] at h; simp at h
            | some x =>
              obtain ⟨ops, r'⟩ := x
              rw [hp] at h
              obtain ⟨g, hg, hg0, hgw, hs⟩ := ih.2 _ _ _ _ hp
              have hg' : ops = g := hg
              subst hg'
              simp only at h
              split at h
              · rename_i hc
                simp only [Option.some.injEq, Prod.mk.injEq] at h
                obtain ⟨rfl, rfl⟩ := h
                refine ⟨?_, ?_, rfl⟩
                · rw [head_tail hq, hs]
                  show _ = (dg (dgv b) :: 40 :: (ops.sep.tail ++ 41 :: [])) ++ r'
                  rw [hd.1]; simp [str]
                · simp only [wf, Bool.and_eq_true, decide_eq_true_eq]
                  exact ⟨⟨⟨⟨hd.2.1, hc.2⟩, hc.1⟩, hgw⟩, trivial⟩
              · cases h
          · rw [if_neg hq] at h
            simp only [Option.some.injEq, Prod.mk.injEq] at h
            obtain ⟨rfl, rfl⟩ := h
            refine ⟨?_, ?_, rfl⟩
            · show _ = [dg (dgv b)] ++ q
              rw [hd.1]; rfl
            · simp only [wf, Bool.and_eq_true, decide_eq_true_eq]
              exact ⟨hd.2, trivial⟩
        · rw [if_neg hb] at h; cases h
    · simp only [pl] at h
      cases hp : pe n s with
      | none => rw [hp] at h; simp at h
      | some x =>
        obtain ⟨t, q⟩ := x
        rw [hp] at h
        obtain ⟨h1, h2, h3⟩ := ih.1 _ _ _ hp
        simp only at h
        by_cases h41 : q.head? = some 41
        · rw [if_pos h41] at h
          simp only [Option.some.injEq, Prod.mk.injEq] at h
          obtain ⟨rfl, rfl⟩ := h
          exact ⟨t, rfl, by omega, h2, by rw [← head_tail h41]; exact h1⟩
        · rw [if_neg h41] at h
          by_cases h44 : q.head? = some 44
          · rw [if_pos h44] at h
            obtain ⟨g, hg, hg0, hgw, hs⟩ := ih.2 _ _ _ _ h
            refine ⟨t.app g, by rw [hg, app_assoc], by rw [app_len]; omega, by rw [app_wf, h2, hgw]; rfl, ?_⟩
            rw [str_app (ne_nil (by omega)) (ne_nil hg0), h1]
            conv => lhs; rw [head_tail h44, hs]
            simp
          · rw [if_neg h44] at h; cases h
theorem px_sound {s r : List UInt8} {t : Fo} (h : px s = some (t, r)) : s = t.str ++ r ∧ t.wf = true ∧ t.len = 1 := (pe_sound _).1 _ _ _ h
theorem pm_sound {s r : List UInt8} {acc f : Fo} (h : pm s acc = some (f, r)) : ∃ g, f = acc.app g ∧ 0 < g.len ∧ g.wf = true ∧ s = g.str ++ 41 :: r := (pe_sound _).2 _ _ _ _ h

theorem pm_none {s : List UInt8} (acc : Fo) (h : px s = none) : pm s acc = none := by rw [pm_eq, h]
theorem pm_end {s r : List UInt8} {t : Fo} (acc : Fo) (h : px s = some (t, 41 :: r)) : pm s acc = some (acc.app t, r) := by
  rw [pm_eq, h]; simp
theorem pm_next {s r : List UInt8} {t : Fo} (acc : Fo) (h : px s = some (t, 44 :: r)) : pm s acc = pm r (acc.app t) := by
  rw [pm_eq, h]; simp
theorem pm_other {s r : List UInt8} {t : Fo} (acc : Fo) (h : px s = some (t, r)) (h1 : r.head? ≠ some 41) (h2 : r.head? ≠ some 44) : pm s acc = none := by
  rw [pm_eq, h]; simp only [if_neg h1, if_neg h2]
theorem px_leaf (m : Nat) (r : List UInt8) (h1 : 1 ≤ m) (h2 : m ≤ 6) (hr : r.head? ≠ some 40) : px (dg m :: r) = some (.leaf m .nil, r) := by
  obtain ⟨hd1, hd2⟩ := dgv_dg h1 h2
  rw [px_cons, if_pos hd2, if_neg hr, hd1]
theorem px_paren (k : Nat) (s r : List UInt8) (ops : Fo) (h1 : 1 ≤ k) (h6 : k ≤ 6) (hp : pm s .nil = some (ops, r)) : px (dg k :: 40 :: s) = if ops.len ≤ 6 ∧ k ≤ ops.len then some (.gate k ops .nil, r) else none := by
  obtain ⟨hd1, hd2⟩ := dgv_dg h1 h6
  rw [px_cons, if_pos hd2, if_pos (by rfl), List.tail_cons, hp, hd1]
theorem px_paren_none (k : Nat) (s : List UInt8) (h1 : 1 ≤ k) (h6 : k ≤ 6) (hp : pm s .nil = none) : px (dg k :: 40 :: s) = none := by
  obtain ⟨hd1, hd2⟩ := dgv_dg h1 h6
  rw [px_cons, if_pos hd2, if_pos (by rfl), List.tail_cons, hp]
theorem px_bad (b : UInt8) (r : List UInt8) (h : isDg b = false) : px (b :: r) = none := by
  rw [px_cons, if_neg (by rw [h]; simp)]

/-- COMPLETE: the text of a well-formed forest is parsed -/
theorem pm_complete (f : Fo) : f.wf = true → f ≠ .nil → ∀ acc r, pm (f.str ++ 41 :: r) acc = some (acc.app f, r) := by
  induction f with
  | nil => intro _ h; exact absurd rfl h
  | leaf m q ih =>
    intro hw _ acc r
    simp only [wf, Bool.and_eq_true, decide_eq_true_eq] at hw
    have e : (Fo.leaf m q).str ++ 41 :: r = dg m :: (q.sep ++ 41 :: r) := rfl
    rw [e]
    by_cases hq : q = .nil
    · subst hq
      exact pm_end acc (px_leaf m _ hw.1.1 hw.1.2 (by simp [sep]))
    · rw [sep_str hq, List.cons_append]
      rw [pm_next acc (px_leaf m (44 :: (q.str ++ 41 :: r)) hw.1.1 hw.1.2 (by simp)), ih hw.2 hq, app_assoc]; rfl
  | gate k ops q ih1 ih2 =>
    intro hw _ acc r
    simp only [wf, Bool.and_eq_true, decide_eq_true_eq] at hw
    obtain ⟨⟨⟨⟨h1, h2⟩, h3⟩, h4⟩, h5⟩ := hw
    have e : (Fo.gate k ops q).str ++ 41 :: r = dg k :: 40 :: (ops.str ++ 41 :: (q.sep ++ 41 :: r)) := by
      show (dg k :: 40 :: (ops.sep.tail ++ 41 :: q.sep)) ++ 41 :: r = _
      simp [str]
    have hp : px (dg k :: 40 :: (ops.str ++ 41 :: (q.sep ++ 41 :: r))) = some (.gate k ops .nil, q.sep ++ 41 :: r) := by
      rw [px_paren k _ _ ops h1 (by omega) (ih1 h4 (ne_nil (by omega)) .nil _), if_pos ⟨h3, h2⟩]
    rw [e]
    by_cases hq : q = .nil
    · subst hq
      exact pm_end acc hp
    · rw [sep_str hq] at hp ⊢
      rw [List.cons_append] at hp ⊢
      rw [pm_next acc hp, ih2 h5 hq, app_assoc]; rfl
theorem px_gate (k : Nat) (ops : Fo) (r : List UInt8) (h : (Fo.gate k ops .nil).wf = true) : px ((Fo.gate k ops .nil).str ++ r) = some (.gate k ops .nil, r) := by
  simp only [wf, Bool.and_eq_true, decide_eq_true_eq] at h
  obtain ⟨⟨⟨⟨h1, h2⟩, h3⟩, h4⟩, _⟩ := h
  have e : (Fo.gate k ops .nil).str ++ r = dg k :: 40 :: (ops.str ++ 41 :: r) := by
    show (dg k :: 40 :: (ops.sep.tail ++ 41 :: [])) ++ r = _
    simp [str]
  rw [e, px_paren k _ _ ops h1 (by omega) (pm_complete ops h4 (ne_nil (by omega)) .nil _), if_pos ⟨h3, h2⟩]
/-- one tree, and what may follow it -/
theorem px_tree (t : Fo) (r : List UInt8) (hw : t.wf = true) (hl : t.len = 1) (hr : r.head? ≠ some 40) : px (t.str ++ r) = some (t, r) := by
  cases t with
  | nil => simp [len] at hl
  | leaf m q =>
    cases q with
    | nil =>
      simp only [wf, Bool.and_eq_true, decide_eq_true_eq] at hw
      exact px_leaf m r hw.1.1 hw.1.2 hr
    | leaf _ _ => simp [len] at hl
    | gate _ _ _ => simp [len] at hl
  | gate k ops q =>
    cases q with
    | nil => exact px_gate k ops r hw
    | leaf _ _ => simp [len] at hl
    | gate _ _ _ => simp [len] at hl

/-- the expression that a text is -/
def ex (s : List UInt8) : Option Fo :=
  if s.length ≤ 40 then
    match px s with
    | some (t, []) => some t
    | _ => none
  else none
theorem ex_some {s : List UInt8} {t : Fo} (h : ex s = some t) : s = t.str ∧ t.wf = true ∧ t.len = 1 ∧ s.length ≤ 40 ∧ px s = some (t, []) := by
  unfold ex at h
  split at h
  · rename_i hl
    cases hp : px s with
    | none => rw [hp] at h; cases h
    | some x =>
      obtain ⟨u, r⟩ := x
      rw [hp] at h
      cases r with
      | nil =>
        simp only [Option.some.injEq] at h
        subst h
        obtain ⟨h1, h2, h3⟩ := px_sound hp
        exact ⟨by simpa using h1, h2, h3, hl, rfl⟩
      | cons _ _ => cases h
  · cases h
theorem ex_str {t : Fo} (hw : t.wf = true) (hl : t.len = 1) (hs : t.str.length ≤ 40) : ex t.str = some t := by
  unfold ex
  have := px_tree t [] hw hl (by simp)
  rw [List.append_nil] at this
  rw [if_pos hs, this]
/-- does a set satisfy an expression? -/
def sat (c : Nat) (t : Fo) : Bool := decide (1 ≤ t.cnt c)
theorem sat_leaf (c m : Nat) : sat c (.leaf m .nil) = has c m := by
  unfold sat; cases h : has c m <;> simp [cnt, h]
theorem sat_gate (c k : Nat) (ops : Fo) : sat c (.gate k ops .nil) = decide (k ≤ ops.cnt c) := by
  unfold sat; by_cases h : k ≤ ops.cnt c <;> simp [cnt, h]
def okE (s : List UInt8) : Bool := (ex s).isSome
def occE (s : List UInt8) : Nat := match ex s with | some t => t.occ | none => 0
def satE (s : List UInt8) (c : Nat) : Bool := match ex s with | some t => sat c t | none => false
/-- ExprMembers, ExprSatisfied -/
def membersE (s : List UInt8) : List Int := if okE s then mem (occE s) else []
def satisfiedE (s : List UInt8) (xs : List Int) : Bool := okE s && (valid xs && satE s (mask xs))
theorem occE_lt (s : List UInt8) : occE s < 64 := by
  unfold occE
  cases h : ex s with
  | none => decide
  | some t => exact occ_lt t (ex_some h).2.1

open Fo

/-- the index behind the expression at an index, -1 if there is none -/
def endL (L : List UInt8) (j : Nat) : Int :=
  match px (L.drop j) with
  | none => -1
  | some (_, r) => (L.length : Int) - r.length
def fin (k n : Nat) (o : Option (Fo × List UInt8)) : Int :=
  match o with
  | none => -1
  | some (ops, r) => if ops.len ≤ 6 ∧ k ≤ ops.len then (n : Int) - r.length else -1
def contP (s : List UInt8) (F : Fo) : Option (Fo × List UInt8) :=
  if F.len = 0 then pm s.tail F else if s.head? = some 41 then some (F, s.tail) else if s.head? = some 44 then pm s.tail F else none

theorem drop_at {L : List UInt8} {j : Nat} {b : UInt8} (h : L[j]? = some b) : L.drop j = b :: L.drop (j + 1) := by
  obtain ⟨hj, rfl⟩ := List.getElem?_eq_some_iff.1 h
  exact List.drop_eq_getElem_cons hj
theorem endL_out {L : List UInt8} {j : Nat} (h : L.length ≤ j) : endL L j = -1 := by
  unfold endL; rw [List.drop_of_length_le h, px_nil]
theorem endL_bad {L : List UInt8} {j : Nat} {b : UInt8} (h : L[j]? = some b) (hb : isDg b = false) : endL L j = -1 := by
  unfold endL; rw [drop_at h, px_bad b _ hb]
theorem endL_leaf {L : List UInt8} {j : Nat} {b : UInt8} (h : L[j]? = some b) (hb : isDg b = true) (hn : L[j + 1]? ≠ some 40) : endL L j = (j : Int) + 1 := by
  unfold endL
  have hd := dg_dgv hb
  have hh : (L.drop (j + 1)).head? ≠ some 40 := by rw [List.head?_drop]; exact hn
  have hp := px_leaf (dgv b) (L.drop (j + 1)) hd.2.1 hd.2.2 hh
  rw [hd.1] at hp
  rw [drop_at h, hp]
  have := (List.getElem?_eq_some_iff.1 h).1
  simp only [List.length_drop]; omega
theorem endL_gate {L : List UInt8} {j : Nat} {b : UInt8} (h : L[j]? = some b) (hb : isDg b = true) (hn : L[j + 1]? = some 40) :
    endL L j = fin (dgv b) L.length (pm (L.drop (j + 1 + 1)) .nil) := by
  unfold endL
  have hd := dg_dgv hb
  rw [drop_at h, drop_at hn]
  cases hp : pm (L.drop (j + 1 + 1)) .nil with
  | none =>
    have := px_paren_none (dgv b) _ hd.2.1 hd.2.2 hp
    rw [hd.1] at this
    rw [this]; rfl
  | some x =>
    obtain ⟨ops, r⟩ := x
    have := px_paren (dgv b) _ r ops hd.2.1 hd.2.2 hp
    rw [hd.1] at this
    rw [this]
    unfold fin
    by_cases hc : ops.len ≤ 6 ∧ dgv b ≤ ops.len
    · simp only [if_pos hc]
    · simp only [if_neg hc]
theorem contP_start {L : List UInt8} {j : Nat} : contP (L.drop (j + 1)) .nil = pm (L.drop (j + 1 + 1)) .nil := by
  unfold contP; rw [if_pos (show Fo.nil.len = 0 from rfl), List.tail_drop]
theorem fin_end {L : List UInt8} {j k n : Nat} {F : Fo} (h : L.length ≤ j) (hF : 0 < F.len) : fin k n (contP (L.drop j) F) = -1 := by
  unfold contP
  rw [List.drop_of_length_le h, if_neg (by omega), if_neg (by simp), if_neg (by simp)]; rfl
theorem fin_close {L : List UInt8} {j k : Nat} {F : Fo} (h : L[j]? = some 41) (hF : 0 < F.len) (hF6 : F.len ≤ 6) :
    fin k L.length (contP (L.drop j) F) = if k ≤ F.len then (j : Int) + 1 else -1 := by
  unfold contP
  rw [drop_at h, if_neg (by omega), if_pos (by rfl)]
  unfold fin
  have := (List.getElem?_eq_some_iff.1 h).1
  by_cases hk : k ≤ F.len
  · simp only [if_pos hk, if_pos (And.intro hF6 hk), List.tail_cons, List.length_drop]; omega
  · simp only [if_neg hk]; rw [if_neg (by omega)]
theorem fin_bad {L : List UInt8} {j k n : Nat} {F : Fo} {b : UInt8} (h : L[j]? = some b) (h1 : b ≠ 41) (h2 : b ≠ 44) (hF : 0 < F.len) : fin k n (contP (L.drop j) F) = -1 := by
  unfold contP
  rw [drop_at h, if_neg (by omega), if_neg (by simpa using h1), if_neg (by simpa using h2)]; rfl
theorem fin_many {L : List UInt8} {j k n : Nat} {F : Fo} {b : UInt8} (h : L[j]? = some b) (h1 : b ≠ 41) (hF : 6 ≤ F.len) : fin k n (contP (L.drop j) F) = -1 := by
  by_cases h2 : b = 44
  · subst h2
    unfold contP
    rw [drop_at h, if_neg (by omega), if_neg (by simp), if_pos (by rfl), List.tail_cons]
    cases hp : pm (L.drop (j + 1)) F with
    | none => rfl
    | some x =>
      obtain ⟨f, r⟩ := x
      obtain ⟨g, rfl, hg, _⟩ := pm_sound hp
      unfold fin
      simp only
      rw [if_neg (by rw [app_len]; omega)]
  · exact fin_bad h h1 h2 (by omega)
theorem contP_go {L : List UInt8} {j : Nat} {F : Fo} (h : F.len = 0 ∨ L[j]? = some 44) : contP (L.drop j) F = pm (L.drop (j + 1)) F := by
  unfold contP
  by_cases h0 : F.len = 0
  · rw [if_pos h0, List.tail_drop]
  · rcases h with h | h
    · exact absurd h h0
    · rw [if_neg h0, drop_at h, if_neg (by simp), if_pos (by rfl)]; rfl
theorem endL_neg {L : List UInt8} {j : Nat} (h : px (L.drop j) = none) : endL L j = -1 := by unfold endL; rw [h]
theorem fin_stop {L : List UInt8} {j k n : Nat} {F : Fo} (h : F.len = 0 ∨ L[j]? = some 44) (hp : px (L.drop (j + 1)) = none) : fin k n (contP (L.drop j) F) = -1 := by
  rw [contP_go h, pm_none F hp]; rfl
/-- what is left is the end of the text -/
theorem px_rest {L r : List UInt8} {j : Nat} {t : Fo} (h : px (L.drop j) = some (t, r)) : j < L.length ∧ j < L.length - r.length ∧ r.length ≤ L.length ∧ L.drop (L.length - r.length) = r ∧ endL L j = ((L.length - r.length : Nat) : Int) := by
  have hs := (px_sound h).1
  have hl := px_len h
  rw [List.length_drop] at hl
  refine ⟨by omega, by omega, by omega, ?_, ?_⟩
  · have hsuf : r <:+ L := ⟨L.take j ++ t.str, by rw [List.append_assoc, ← hs, List.take_append_drop]⟩
    obtain ⟨p, rfl⟩ := hsuf
    rw [List.length_append, Nat.add_sub_cancel, List.drop_left]
  · unfold endL; rw [h]; simp only; omega
theorem contP_step {L r : List UInt8} {j : Nat} {F t : Fo} (h : F.len = 0 ∨ L[j]? = some 44) (hp : px (L.drop (j + 1)) = some (t, r)) :
    contP (L.drop j) F = contP (L.drop (L.length - r.length)) (F.app t) ∧ (F.app t).len = F.len + 1 := by
  have h1 := (px_sound hp).2.2
  have hlen : (F.app t).len = F.len + 1 := by rw [app_len, h1]
  refine ⟨?_, hlen⟩
  rw [contP_go h, (px_rest hp).2.2.2.1, pm_eq, hp]
  unfold contP
  rw [if_neg (by omega)]
/-- a text is an expression: what its end says -/
theorem okE_end (L : List UInt8) (h : L.length ≤ 40) : okE L = (decide (endL L 0 = (L.length : Int)) && decide (0 < L.length)) := by
  unfold okE ex endL
  rw [if_pos h, List.drop_zero]
  cases hp : px L with
  | none => simp
  | some x =>
    obtain ⟨t, r⟩ := x
    have := px_len hp
    cases r with
    | nil => simp; simpa using this
    | cons a q => simp; intro h; omega
theorem okE_long (L : List UInt8) (h : ¬ L.length ≤ 40) : okE L = false := by
  unfold okE ex; rw [if_neg h]; rfl

/-- the trees of a forest, each alone -/
def trees : Fo → List Fo
  | .nil => []
  | .leaf m r => .leaf m .nil :: trees r
  | .gate k ops r => .gate k ops .nil :: trees r
theorem trees_len (f : Fo) : (trees f).length = f.len := by
  induction f with | nil => rfl | leaf m r ih => simp [trees, len, ih] | gate k ops r _ ih => simp [trees, len, ih]
/-- the first tree, and the others -/
def hdF : Fo → Fo
  | .nil => .nil
  | .leaf m _ => .leaf m .nil
  | .gate k ops _ => .gate k ops .nil
def tlF : Fo → Fo
  | .nil => .nil
  | .leaf _ r => r
  | .gate _ _ r => r
theorem trees_cons {F : Fo} (h : F ≠ .nil) : trees F = hdF F :: trees (tlF F) := by
  cases F with | nil => exact absurd rfl h | leaf m r => rfl | gate k ops r => rfl
theorem hd_app {F : Fo} (h : F ≠ .nil) : (hdF F).app (tlF F) = F := by
  cases F with | nil => exact absurd rfl h | leaf m r => rfl | gate k ops r => rfl
theorem hd_len {F : Fo} (h : F ≠ .nil) : (hdF F).len = 1 := by
  cases F with | nil => exact absurd rfl h | leaf m r => rfl | gate k ops r => rfl
theorem tl_len {F : Fo} (h : F ≠ .nil) : F.len = (tlF F).len + 1 := by
  cases F with | nil => exact absurd rfl h | leaf m r => rfl | gate k ops r => rfl
theorem hd_wf {F : Fo} (h : F.wf = true) : (hdF F).wf = true ∧ (tlF F).wf = true := by
  cases F with
  | nil => exact ⟨rfl, rfl⟩
  | leaf m r => simp only [wf, Bool.and_eq_true, decide_eq_true_eq] at h; exact ⟨by simp [hdF, wf, h], h.2⟩
  | gate k ops r => simp only [wf, Bool.and_eq_true, decide_eq_true_eq] at h; exact ⟨by simp [hdF, wf, h], h.2⟩
theorem str_hd {F : Fo} (h : F ≠ .nil) : F.str = (hdF F).str ++ (tlF F).sep := by
  cases F with | nil => exact absurd rfl h | leaf m r => simp [str, sep, hdF, tlF] | gate k ops r => simp [str, sep, hdF, tlF]
theorem trees_wf {F : Fo} (h : F.wf = true) : ∀ t ∈ trees F, t.wf = true ∧ t.len = 1 := by
  induction F with
  | nil => intro t ht; simp [trees] at ht
  | leaf m r ih =>
    have hw := hd_wf h
    intro t ht
    rw [trees_cons (by simp)] at ht
    rcases List.mem_cons.1 ht with rfl | ht
    · exact ⟨hw.1, rfl⟩
    · exact ih hw.2 t ht
  | gate k ops r _ ih =>
    have hw := hd_wf h
    intro t ht
    rw [trees_cons (by simp)] at ht
    rcases List.mem_cons.1 ht with rfl | ht
    · exact ⟨hw.1, rfl⟩
    · exact ih hw.2 t ht
/-- the end of the first of several trees -/
theorem end_hd {L : List UInt8} {j : Nat} {F : Fo} {q : List UInt8} (hF : F ≠ .nil) (hw : F.wf = true) (h : L.drop j = F.str ++ 41 :: q) :
    ∃ i, endL L j = (i : Nat) ∧ j ≤ i ∧ i < L.length ∧ L.drop i = (tlF F).sep ++ 41 :: q ∧ (L.drop j).take (i - j) = (hdF F).str := by
  have hh : ((tlF F).sep ++ 41 :: q).head? ≠ some 40 := by
    by_cases h0 : tlF F = .nil
    · rw [h0]; simp [sep]
    · rw [sep_str h0]; simp
  have hp : px (L.drop j) = some (hdF F, (tlF F).sep ++ 41 :: q) := by
    rw [h, str_hd hF, List.append_assoc]
    exact px_tree _ _ (hd_wf hw).1 (hd_len hF) hh
  obtain ⟨h1, h2, h3, h4, h5⟩ := px_rest hp
  refine ⟨_, h5, by omega, ?_, h4, ?_⟩
  · simp only [List.length_append, List.length_cons] at h3 ⊢; omega
  · have hlen : L.length - j = (hdF F).str.length + ((tlF F).sep ++ 41 :: q).length := by
      have := congrArg List.length (px_sound hp).1
      rw [List.length_drop, List.length_append] at this
      exact this
    rw [(px_sound hp).1]
    rw [show L.length - ((tlF F).sep ++ 41 :: q).length - j = (hdF F).str.length from by omega]
    exact List.take_left
/-- the first n trees -/
def takeF : Nat → Fo → Fo
  | 0, _ => .nil
  | _ + 1, .nil => .nil
  | n + 1, .leaf m r => .leaf m (takeF n r)
  | n + 1, .gate k ops r => .gate k ops (takeF n r)
theorem takeF_zero (F : Fo) : takeF 0 F = .nil := by rw [takeF]
theorem takeF_mem0 (F : Fo) : mem (takeF 0 F).occ = [] := by rw [takeF_zero]; decide
theorem takeF_cnt0 (F : Fo) (c : Nat) : (takeF 0 F).cnt c = 0 := by rw [takeF_zero]; rfl
theorem takeF_all (F : Fo) : takeF F.len F = F := by
  induction F with | nil => rfl | leaf m r ih => simp [len, takeF, ih] | gate k ops r _ ih => simp [len, takeF, ih]
theorem takeF_step (n : Nat) (F t : Fo) (h : (trees F)[n]? = some t) : takeF (n + 1) F = (takeF n F).app t := by
  induction n generalizing F with
  | zero =>
    cases F with
    | nil => simp [trees] at h
    | leaf m r => simp [trees] at h; subst h; simp [takeF, app]
    | gate k ops r => simp [trees] at h; subst h; simp [takeF, app]
  | succ n ih =>
    cases F with
    | nil => simp [trees] at h
    | leaf m r => simp only [trees, List.getElem?_cons_succ] at h; rw [takeF, ih r h]; rfl
    | gate k ops r => simp only [trees, List.getElem?_cons_succ] at h; rw [takeF, ih r h]; rfl
theorem takeF_wf (n : Nat) (F : Fo) (h : F.wf = true) : (takeF n F).wf = true := by
  induction n generalizing F with
  | zero => rfl
  | succ n ih =>
    cases F with
    | nil => rfl
    | leaf m r => simp only [wf, takeF, Bool.and_eq_true] at h ⊢; exact ⟨h.1, ih r h.2⟩
    | gate k ops r => simp only [wf, takeF, Bool.and_eq_true] at h ⊢; exact ⟨h.1, ih r h.2⟩
theorem occ_step (n : Nat) (F t : Fo) (h : (trees F)[n]? = some t) : (takeF (n + 1) F).occ = (takeF n F).occ ||| t.occ := by
  rw [takeF_step n F t h, app_occ]
theorem cnt_step (c n : Nat) (F t : Fo) (h : (trees F)[n]? = some t) : (takeF (n + 1) F).cnt c = (takeF n F).cnt c + t.cnt c := by
  rw [takeF_step n F t h, app_cnt]
theorem cnt_one (c : Nat) (t : Fo) (h : t.len = 1) : t.cnt c = if sat c t then 1 else 0 := by
  have := cnt_le c t
  unfold sat
  by_cases h1 : 1 ≤ t.cnt c
  · rw [decide_eq_true h1]; simp; omega
  · rw [decide_eq_false h1]; simp; omega
/-- a single tree -/
theorem one_tree {t : Fo} (hw : t.wf = true) (hl : t.len = 1) : (∃ m, t = .leaf m .nil ∧ 1 ≤ m ∧ m ≤ 6) ∨
    (∃ k ops, t = .gate k ops .nil ∧ 1 ≤ k ∧ k ≤ ops.len ∧ ops.len ≤ 6 ∧ ops.wf = true) := by
  cases t with
  | nil => simp [len] at hl
  | leaf m q =>
    cases q with
    | nil => simp only [wf, Bool.and_eq_true, decide_eq_true_eq] at hw; exact .inl ⟨m, rfl, hw.1⟩
    | leaf _ _ => simp [len] at hl
    | gate _ _ _ => simp [len] at hl
  | gate k ops q =>
    cases q with
    | nil => simp only [wf, Bool.and_eq_true, decide_eq_true_eq] at hw; exact .inr ⟨k, ops, rfl, hw.1.1.1.1, hw.1.1.1.2, hw.1.1.2, hw.1.2⟩
    | leaf _ _ => simp [len] at hl
    | gate _ _ _ => simp [len] at hl
theorem str_leaf (m : Nat) : (Fo.leaf m .nil).str = [dg m] := rfl
theorem str_gate (k : Nat) (ops : Fo) : (Fo.gate k ops .nil).str = dg k :: 40 :: (ops.str ++ [41]) := by
  show dg k :: 40 :: (ops.sep.tail ++ 41 :: []) = _
  rfl
theorem str_pos {t : Fo} (h : t ≠ .nil) : 0 < t.str.length := by
  cases t with | nil => exact absurd rfl h | leaf m r => simp [str, sep] | gate k ops r => simp [str, sep]
/-- the text of an operand is shorter -/
theorem str_le (F : Fo) : ∀ t, t ∈ trees F → t.str.length ≤ F.str.length := by
  have gen : ∀ (G : Fo), G ≠ .nil → (∀ t, t ∈ trees (tlF G) → t.str.length ≤ (tlF G).str.length) → ∀ t, t ∈ trees G → t.str.length ≤ G.str.length := by
    intro G hG ih t h
    have e := congrArg List.length (str_hd hG)
    rw [List.length_append] at e
    rw [trees_cons hG] at h
    rcases List.mem_cons.1 h with rfl | h
    · omega
    · have h1 := ih t h
      have h2 : (tlF G).str.length ≤ (tlF G).sep.length := by unfold str; simp
      omega
  induction F with
  | nil => intro t h; simp [trees] at h
  | leaf m r ih => exact gen (.leaf m r) (by simp) ih
  | gate k ops r _ ih => exact gen (.gate k ops r) (by simp) ih
theorem mem_bit {m : Nat} (h1 : 1 ≤ m) (h2 : m ≤ 6) : mem (bit m) = [(m : Int)] := by
  have hm : m = 1 ∨ m = 2 ∨ m = 3 ∨ m = 4 ∨ m = 5 ∨ m = 6 := by omega
  rcases hm with rfl | rfl | rfl | rfl | rfl | rfl <;> decide
theorem occ_leaf (m : Nat) : (Fo.leaf m .nil).occ = bit m := by simp [occ]
theorem occ_gate (k : Nat) (ops : Fo) : (Fo.gate k ops .nil).occ = ops.occ := by simp [occ]

open Fo

theorem okE_some {L : List UInt8} (h : okE L = true) : ∃ t, ex L = some t ∧ L = t.str ∧ t.wf = true ∧ t.len = 1 ∧ L.length ≤ 40 := by
  obtain ⟨t, ht⟩ := Option.isSome_iff_exists.1 h
  obtain ⟨h1, h2, h3, h4, _⟩ := ex_some ht
  exact ⟨t, ht, h1, h2, h3, h4⟩
theorem satisfiedE_ok {L : List UInt8} {t : Fo} (h : ex L = some t) (xs : List Int) : satisfiedE L xs = (valid xs && sat (mask xs) t) := by
  unfold satisfiedE okE satE; rw [h]; rfl
theorem membersE_ok {L : List UInt8} {t : Fo} (h : ex L = some t) : membersE L = mem t.occ := by
  unfold membersE okE occE; rw [h]; rfl
theorem satisfiedE_yes {L : List UInt8} {xs : List Int} (h : satisfiedE L xs = true) : okE L = true ∧ valid xs = true := by
  unfold satisfiedE at h; rw [Bool.and_eq_true, Bool.and_eq_true] at h; exact ⟨h.1, h.2.1⟩
theorem membersE_valid (L : List UInt8) : valid (membersE L) = true := by
  unfold membersE; split
  · exact mem_valid (occE_lt L)
  · rfl
/-- '1(text)' -/
theorem wrap_ex {L : List UInt8} {t : Fo} (h : ex L = some t) (hl : L.length + 3 ≤ 40) : ex (49 :: 40 :: (L ++ [41])) = some (.gate 1 t .nil) := by
  obtain ⟨h1, h2, h3, h4, _⟩ := ex_some h
  have e : 49 :: 40 :: (L ++ [41]) = (Fo.gate 1 t .nil).str := by rw [str_gate, h1]; rfl
  rw [e]
  refine ex_str ?_ rfl ?_
  · simp [wf, h2, h3]
  · rw [← e]; simp; omega
theorem wrap_law {L : List UInt8} (h : okE L = true) (hl : L.length + 3 ≤ 40) (xs : List Int) : satisfiedE (49 :: 40 :: (L ++ [41])) xs = satisfiedE L xs := by
  obtain ⟨t, ht, h1, h2, h3, h4⟩ := okE_some h
  rw [satisfiedE_ok ht, satisfiedE_ok (wrap_ex ht hl), sat_gate]; rfl
/-- 'k(text,m)' -/
theorem pair_ex {L : List UInt8} {t : Fo} (h : ex L = some t) (k m : Nat) (hk : k = 1 ∨ k = 2) (h1 : 1 ≤ m) (h6 : m ≤ 6) (hl : L.length + 5 ≤ 40) :
    ex (dg k :: 40 :: (L ++ 44 :: dg m :: [41])) = some (.gate k (t.app (.leaf m .nil)) .nil) := by
  obtain ⟨e1, e2, e3, e4, _⟩ := ex_some h
  have hne : t ≠ .nil := ne_nil (by omega)
  have e : dg k :: 40 :: (L ++ 44 :: dg m :: [41]) = (Fo.gate k (t.app (.leaf m .nil)) .nil).str := by
    rw [str_gate, str_app hne (by simp), str_leaf, e1]; simp
  rw [e]
  refine ex_str ?_ rfl ?_
  · simp only [wf, app_wf, app_len, e2, e3, len, Bool.and_eq_true, decide_eq_true_eq]
    refine ⟨⟨⟨⟨by omega, by omega⟩, by omega⟩, ?_⟩, trivial⟩
    exact ⟨trivial, ⟨h1, h6⟩, trivial⟩
  · rw [← e]; simp; omega
theorem cnt_leaf (c m : Nat) : (Fo.leaf m .nil).cnt c = if has c m then 1 else 0 := by simp [cnt]
theorem or_law {L : List UInt8} (h : okE L = true) (hl : L.length + 5 ≤ 40) {xs : List Int} (hv : valid xs = true) {m : Nat} (h1 : 1 ≤ m) (h6 : m ≤ 6) :
    satisfiedE (dg 1 :: 40 :: (L ++ 44 :: dg m :: [41])) xs = (satisfiedE L xs || containsL xs m) ∧
    satisfiedE (dg 2 :: 40 :: (L ++ 44 :: dg m :: [41])) xs = (satisfiedE L xs && containsL xs m) := by
  obtain ⟨t, ht, _, h2, h3, _⟩ := okE_some h
  have hone := cnt_one (mask xs) t h3
  rw [satisfiedE_ok ht, satisfiedE_ok (pair_ex ht 1 m (.inl rfl) h1 h6 hl), satisfiedE_ok (pair_ex ht 2 m (.inr rfl) h1 h6 hl), sat_gate, sat_gate, app_cnt, cnt_leaf, hone]
  unfold containsL
  rw [hv]
  cases sat (mask xs) t <;> cases has (mask xs) m <;> simp
theorem parts_law {L : List UInt8} (h : okE L = true) (hl : L.length + 5 ≤ 40) {m : Nat} (h1 : 1 ≤ m) (h6 : m ≤ 6) :
    membersE (dg 1 :: 40 :: (L ++ 44 :: dg m :: [41])) = unionL (membersE L) [(m : Int)] := by
  obtain ⟨t, ht, _, h2, h3, _⟩ := okE_some h
  have hb : bit (m : Int) < 64 := by
    have hm : m = 1 ∨ m = 2 ∨ m = 3 ∨ m = 4 ∨ m = 5 ∨ m = 6 := by omega
    rcases hm with rfl | rfl | rfl | rfl | rfl | rfl <;> decide
  rw [membersE_ok ht, membersE_ok (pair_ex ht 1 m (.inl rfl) h1 h6 hl), occ_gate, app_occ, occ_leaf, ← mem_bit h1 h6, unionL_mem (occ_lt t h2) hb]
theorem cnt_zero (F : Fo) (h : F.wf = true) : F.cnt 0 = 0 := by
  induction F with
  | nil => rfl
  | leaf m r ih =>
    simp only [wf, Bool.and_eq_true] at h
    simp [cnt, ih h.2, has]
  | gate k ops r ih1 ih2 =>
    simp only [wf, Bool.and_eq_true, decide_eq_true_eq] at h
    simp only [cnt, ih1 h.1.2, ih2 h.2]
    rw [if_neg (by omega)]
theorem cnt_full (F : Fo) (c : Nat) (hw : F.wf = true) (h : ∀ m, has F.occ m = true → has c m = true) : F.cnt c = F.len := by
  induction F with
  | nil => rfl
  | leaf m r ih =>
    simp only [wf, Bool.and_eq_true, decide_eq_true_eq] at hw
    have h1 : has c m = true := h m (by
      rw [occ, has_or]
      have : has (bit (m : Int)) m = true := by
        have hm : m = 1 ∨ m = 2 ∨ m = 3 ∨ m = 4 ∨ m = 5 ∨ m = 6 := by omega
        rcases hm with rfl | rfl | rfl | rfl | rfl | rfl <;> decide
      rw [this]; rfl)
    have h2 := ih hw.2 (fun j hj => h j (by rw [occ, has_or, hj, Bool.or_true]))
    simp only [cnt, len, h1, h2, if_true]; omega
  | gate k ops r ih1 ih2 =>
    simp only [wf, Bool.and_eq_true, decide_eq_true_eq] at hw
    have h1 := ih1 hw.1.2 (fun j hj => h j (by rw [occ, has_or, hj, Bool.true_or]))
    have h2 := ih2 hw.2 (fun j hj => h j (by rw [occ, has_or, hj, Bool.or_true]))
    simp only [cnt, len, h1, h2]
    rw [if_pos hw.1.1.1.2]; omega
theorem occ_pos (F : Fo) (hw : F.wf = true) (h : F ≠ .nil) : F.occ ≠ 0 := by
  induction F with
  | nil => exact absurd rfl h
  | leaf m r ih =>
    intro e
    have := congrArg (fun c => has c (m : Int)) e
    simp only [wf, Bool.and_eq_true, decide_eq_true_eq] at hw
    rw [occ] at this
    simp only [has_or] at this
    have hb : has (bit (m : Int)) m = true := by
      have hm : m = 1 ∨ m = 2 ∨ m = 3 ∨ m = 4 ∨ m = 5 ∨ m = 6 := by omega
      rcases hm with rfl | rfl | rfl | rfl | rfl | rfl <;> decide
    rw [hb] at this
    simp [has] at this
  | gate k ops r ih1 ih2 =>
    intro e
    simp only [wf, Bool.and_eq_true, decide_eq_true_eq] at hw
    rw [occ, Nat.or_eq_zero_iff] at e
    exact ih1 hw.1.2 (ne_nil (by omega)) e.1
theorem empty_law {L : List UInt8} (h : okE L = true) : satisfiedE L [] = false ∧ satisfiedE L (membersE L) = true ∧ 0 < (membersE L).length := by
  obtain ⟨t, ht, _, h2, h3, _⟩ := okE_some h
  have hlt := occ_lt t h2
  refine ⟨?_, ?_, ?_⟩
  · rw [satisfiedE_ok ht]
    have : mask [] = 0 := rfl
    rw [this]; unfold sat; rw [cnt_zero t h2]; simp
  · rw [satisfiedE_ok ht, membersE_ok ht, mem_valid hlt, mask_mem hlt]
    unfold sat; rw [cnt_full t t.occ h2 (fun _ h => h), h3]; rfl
  · rw [membersE_ok ht]
    rcases Nat.eq_zero_or_pos (mem t.occ).length with h0 | h0
    · have := List.eq_nil_of_length_eq_zero h0
      have h1 := mask_mem hlt
      rw [this] at h1
      exact absurd h1.symm (occ_pos t h2 (ne_nil (by omega)))
    · exact h0
theorem cnt_local (F : Fo) (c d : Nat) (h : ∀ m, has F.occ m = true → has c m = has d m) (hw : F.wf = true) : F.cnt c = F.cnt d := by
  induction F with
  | nil => rfl
  | leaf m r ih =>
    simp only [wf, Bool.and_eq_true, decide_eq_true_eq] at hw
    have h1 : has c m = has d m := h m (by
      rw [occ, has_or]
      have : has (bit (m : Int)) m = true := by
        have hm : m = 1 ∨ m = 2 ∨ m = 3 ∨ m = 4 ∨ m = 5 ∨ m = 6 := by omega
        rcases hm with rfl | rfl | rfl | rfl | rfl | rfl <;> decide
      rw [this]; rfl)
    simp only [cnt, h1, ih (fun j hj => h j (by rw [occ, has_or, hj, Bool.or_true])) hw.2]
  | gate k ops r ih1 ih2 =>
    simp only [wf, Bool.and_eq_true, decide_eq_true_eq] at hw
    simp only [cnt, ih1 (fun j hj => h j (by rw [occ, has_or, hj, Bool.true_or])) hw.1.2, ih2 (fun j hj => h j (by rw [occ, has_or, hj, Bool.or_true])) hw.2]
theorem local_law {L : List UInt8} {xs : List Int} (hv : valid xs = true) : satisfiedE L (interL xs (membersE L)) = satisfiedE L xs := by
  cases hok : okE L with
  | false => unfold satisfiedE; rw [hok]; rfl
  | true =>
    obtain ⟨t, ht, _, h2, h3, _⟩ := okE_some hok
    obtain ⟨c, hc, rfl⟩ := valid_mem hv
    have hlt := occ_lt t h2
    rw [satisfiedE_ok ht, satisfiedE_ok ht, membersE_ok ht, interL_mem hc hlt, mem_valid (and_lt hc), mem_valid hc, mask_mem (and_lt hc), mask_mem hc]
    unfold sat
    rw [cnt_local t (c &&& t.occ) c (fun m hm => by rw [has_and, hm, Bool.and_true]) h2]
theorem cnt_mono (F : Fo) (c d : Nat) (h : ∀ m, has c m = true → has d m = true) : F.cnt c ≤ F.cnt d := by
  induction F with
  | nil => exact Nat.le_refl _
  | leaf m r ih =>
    simp only [cnt]
    cases hc : has c m
    · simp; omega
    · rw [h m hc]; simp; omega
  | gate k ops r ih1 ih2 =>
    simp only [cnt]
    by_cases hk : k ≤ ops.cnt c
    · rw [if_pos hk, if_pos (by omega)]; omega
    · rw [if_neg hk]; omega
theorem sat_mono (t : Fo) (c d : Nat) (h : ∀ m, has c m = true → has d m = true) (hs : sat c t = true) : sat d t = true := by
  unfold sat at hs ⊢
  rw [decide_eq_true_eq] at hs ⊢
  have := cnt_mono t c d h; omega
theorem mono_law {L : List UInt8} {xs : List Int} (h : satisfiedE L xs = true) (z : Nat) (hz : z < 64) : satisfiedE L (unionL xs (mem z)) = true ∧ satisfiedE L (mem 63) = true := by
  obtain ⟨hok, hv⟩ := satisfiedE_yes h
  obtain ⟨t, ht, _, h2, h3, _⟩ := okE_some hok
  obtain ⟨c, hc, rfl⟩ := valid_mem hv
  rw [satisfiedE_ok ht, mem_valid hc, mask_mem hc, Bool.true_and] at h
  rw [satisfiedE_ok ht, satisfiedE_ok ht, unionL_mem hc hz, mem_valid (or_lt hc hz), mem_valid (by decide : 63 < 64), mask_mem (or_lt hc hz), mask_mem (by decide : 63 < 64)]
  exact ⟨sat_mono t c _ (fun m hm => by rw [has_or, hm, Bool.true_or]) h, sat_mono t c _ (fun m hm => by rw [has_full]; exact by have := has_lt hm; simp [isM, this]) h⟩
end Go.Proofs.Ytnifgfnhcjhodaa
