/- XPI: several texts in one. Conditions: each lemma's own. -/
import Derived.Test.YtnifgfnhcjhodaaPH
import Derived.Test.YtnifgfnhcjhodaaPJ
import Derived.Test.YtnifgfnhcjhodaaPQ

import Derived.Test.YtnifgfnhcjhodaaPE

import Derived.Test.YtnifgfnhcjhodaaPB
namespace Go.Proofs.Ytnifgfnhcjhodaa
open Go.RowKit
set_option linter.unusedVariables false

/-- What readFamilies leaves. -/
def RQ2 (w : World) (f g : List (List Int)) (e : Ending) (w' : World) : Prop :=
  ∃ a n c b m d, e = .returned (.tuple #[.slice a n c, .slice b m d, .bool (ok2 f g)]) ∧ OwnC w' w.heap.size a n c (rdF f) ∧ OwnC w' w.heap.size b m d (rdF g) ∧ (∀ k, (Value.slice a n c).ownBlock = some k → (Value.slice b m d).ownBlock ≠ some k) ∧ Ext none w w'
theorem retT {a b : Value} {x y : Bool} (h : x = y) : Ending.returned (.tuple #[a, b, .bool y]) = .returned (.tuple #[a, b, .bool x]) := by rw [h]
set_option maxHeartbeats 1000000 in
theorem readFamilies_any {a : Option Addr} {n cp : Nat} {f : List (List Int)} {b : Option Addr} {m cq : Nat} {g : List (List Int)} {w : World} (h : Fam w a n f) (h' : Fam w b m g) :
    Calls Try.prog 31 #[.slice a n cp, .slice b m cq] w (RQ2 w f g) := by
  cases hf : famB f
  · have hok := Lib.hid (show ok2 f g = false from by unfold ok2; rw [hf]; rfl)
    go_enter Try.func31, Try.ntmps31
    go_wp2_with fail
    refine (readFamily_is h hf).mono ?_; rintro e w1 ⟨a1, n1, c1, rfl, o1, e1⟩
    have hlt := Lib.hid (fun k hk => (World.ownsRow.lt o1 k hk).2)
    go_wp2_with fail
    refine (readFamily_any (h'.ext e1)).mono ?_; rintro e w2 ⟨a2, n2, c2, rfl, o2, e2⟩
    have hge := Lib.hid (fun k hk => (World.ownsRow.lt o2 k hk).1)
    go_wp2_with fail
    go_ret3
    exact ⟨_, _, _, _, _, _, retT hok.out, o1.ext0 e2, o2.mono e1.size, fun k hk hk' => by have := hlt.out k hk; have := hge.out k hk'; omega, e1.trans e2⟩
  · have hok := Lib.hid (show ok2 f g = famB g from by unfold ok2; rw [hf]; rfl)
    go_enter Try.func31, Try.ntmps31
    go_wp2_with fail
    refine (readFamily_is h hf).mono ?_; rintro e w1 ⟨a1, n1, c1, rfl, o1, e1⟩
    have hlt := Lib.hid (fun k hk => (World.ownsRow.lt o1 k hk).2)
    go_wp2_with fail
    refine (readFamily_any (h'.ext e1)).mono ?_; rintro e w2 ⟨a2, n2, c2, rfl, o2, e2⟩
    have hge := Lib.hid (fun k hk => (World.ownsRow.lt o2 k hk).1)
    go_wp2_with fail
    go_ret3
    exact ⟨_, _, _, _, _, _, retT hok.out, o1.ext0 e2, o2.mono e1.size, fun k hk hk' => by have := hlt.out k hk; have := hge.out k hk'; omega, e1.trans e2⟩


theorem readFamilies_is {a : Option Addr} {n cp : Nat} {f : List (List Int)} {b : Option Addr} {m cq : Nat} {g : List (List Int)} {w : World} {q : Bool} (h : Fam w a n f) (h' : Fam w b m g) (hq : ok2 f g = q) :
    Calls Try.prog 31 #[.slice a n cp, .slice b m cq] w fun e w' => ∃ a n c b m d, e = .returned (.tuple #[.slice a n c, .slice b m d, .bool q]) ∧ OwnC w' w.heap.size a n c (rdF f) ∧ OwnC w' w.heap.size b m d (rdF g) ∧ (∀ k, (Value.slice a n c).ownBlock = some k → (Value.slice b m d).ownBlock ≠ some k) ∧ Ext none w w' := by
  rw [← hq]; exact readFamilies_any h h'

/-- append of a slice of masks that may be nil -/
theorem wpl_crews (t : TypeId) (ht : Try.prog.underlying t = some (.slice 52)) {ops : Array Oper} {rest : List Oper} {o : Oper} {a : Act} {w : World} {Q : Exit → Act → World → Prop}
    (hg : o.guard = none) (s x : Operand) (ho : o.op = Op.call { callee := Callee.builtin Builtin.append, args := #[s, x], argTypes := #[t, t] })
    (B : Nat) (ad : Option Addr) (n c : Nat) (q : List Nat) (hs : a.eval s = .slice ad n c) (hown : OwnC w B ad n c q)
    (B2 : Nat) (sa : Option Addr) (m cs : Nat) (p : List Nat) (hx : a.eval x = .slice sa m cs) (hsrc : OwnC w B2 sa m cs p) (hlen : n + m ≤ 1000000) (hB : B ≤ w.heap.size)
    (hK : ∀ a' c' w', OwnC w' B a' (n + m) c' (q ++ p) → w.grownBy w' (Value.slice ad n c).ownBlock → wpList Try.prog ops Q rest (a.put o.dst (.slice a' (n + m) c')) w') :
    wpList Try.prog ops Q (o :: rest) a w := by
  obtain ⟨i0, hi, hz0, hz1, hz2⟩ := info_parts crewInfo
  cases sa with
  | some sa =>
    refine wpl_app hg s x t ho B 52 i0 (.int .u64 0) 8 ht hi hz0 hz1 hz2 rfl ad n c _ hs hown sa m cs _ hx hsrc.crs ?_ hlen (by decide) hB fun a' c' w' k1 k2 _ _ => hK a' c' w' (by unfold OwnC; rw [List.map_append]; exact k1) k2
    intro u hu
    obtain ⟨y, _, rfl⟩ := List.mem_map.1 hu
    rfl
  | none =>
    have h0 : m = 0 ∧ cs = 0 := by
      rcases hsrc.2 with ⟨hv, h0⟩ | ⟨g, cap, _, hv, _⟩
      · injection hv with _ _ hc; exact ⟨h0, hc⟩
      · injection hv with h _ _; cases h
    obtain ⟨rfl, rfl⟩ := h0
    have hp : p = [] := List.eq_nil_of_length_eq_zero hsrc.len
    subst hp
    refine wpList_append_own_none hg s x t ho B 52 i0 1 ht hi _ n _ hs hown hx ?_
    exact hK ad c w (by rw [List.append_nil]; exact hown) (World.grownBy.refl _ _)

theorem unisT_len {p q : List Nat} (hp : p.length ≤ 20) (hq : q.length ≤ 20) (k j : Nat) (c : Nat) : (unis (p.take k) q ++ (q.take j).map (fun y => c ||| y)).length ≤ 420 := by
  rw [List.length_append, unis_len, List.length_map, List.length_take, List.length_take]
  have h3 : min k p.length * q.length ≤ 20 * 20 := Nat.mul_le_mul (by omega) hq
  omega
end Go.Proofs.Ytnifgfnhcjhodaa
