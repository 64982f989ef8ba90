/- XPI: several texts in one. Conditions: each lemma's own. -/
import Derived.Test.YtjjjpakgnipghaaDoorPH
import Derived.Test.YtjjjpakgnipghaaDoorPJ
import Derived.Test.YtjjjpakgnipghaaDoorPQ

import Derived.Test.YtjjjpakgnipghaaDoorPE

import Derived.Test.YtjjjpakgnipghaaDoorPB
namespace Go.Proofs.YtjjjpakgnipghaaDoor
open Go.RowKit
set_option linter.unusedVariables false

set_option maxHeartbeats 1000000 in
theorem lists_any {a : Option Addr} {n cp : Nat} {q : List Nat} {w : World} (h : Crs w a n q) (hq : ∀ x ∈ q, x < 64) (hn : n ≤ 900000) :
    Calls Tryd.prog 49 #[.slice a n cp] w (RG w (famL q)) := by
  have H := Lib.hid h
  have HQ := Lib.hid hq
  have hlq := Lib.hid h.len
  clear h hq
  go_enter Tryd.func49, Tryd.ntmps49
  go_wp2_with fail
  go_loopw [3, 8] (fun v i wr => ∃ (k : Nat) (a2 : Option Addr) (n2 c2 : Nat), k ≤ n ∧ n2 = k ∧ i = .int .i64 (k : Nat) ∧ v = .slice a2 n2 c2 ∧ OwnG wr w.heap.size wr.heap.size a2 n2 c2 (famL (q.take k)) ∧ Ext none w wr)
    (fun _ i _ => n - (intOf i).toNat)
  case atStart => exact ⟨0, none, 0, 0, by omega, rfl, rfl, rfl, OwnG.nil _ _ _, Ext.refl _ _⟩
  case round =>
    obtain ⟨k, a2, n2, c2, hk, hn2, rfl, rfl, hG, hE⟩ := hrel
    subst hn2
    have HG := Lib.hid hG
    have HE := Lib.hid hE
    by_cases hlt : n2 < n
    · have hltI : (n2 : Int) < (n : Int) := by omega
      have hkl : n2 < q.length := by rw [hlq.out]; exact hlt
      obtain ⟨b, off, rfl, hc⟩ := (H.out.ext hE).cell hlt
      have hx64 := getD_lt HQ.out hkl
      obtain ⟨x, hx⟩ : ∃ x, x = q.getD n2 0 := ⟨_, rfl⟩
      rw [← hx] at hc hx64
      have hst := Lib.hid (show famL (q.take (n2 + 1)) = famL (q.take n2) ++ [mem x] from by rw [snoc_take q 0 n2 hkl, ← hx, famL_snoc])
      clear hG hE hx
      go_wp2_with fail
      refine (members_any hx64).mono ?_; rintro e w2 ⟨a3, n3, c3, rfl, o3, e3⟩
      have hG2 := HG.out.ext0 e3
      have HE2 := Lib.hid (HE.out.trans e3)
      have hsz := e3.size
      have hlo := HE.out.size
      clear e3
      go_wp2_with (at_builtin; refine app_rowG _ rfl _ _ rfl w.heap.size wr.heap.size a2 n2 c2 _ hG2 a3 n3 c3 _ o3 hlo rfl rfl (by omega) hsz ?_; intro g c' w5 ho5 hg5)
      go_roundw
      case rel => exact ⟨n2 + 1, _, _, _, by omega, rfl, by go_num, rfl, by rw [hst.out]; exact ho5, HE2.out.grown hg5 (fun j hj => .inl (hG2.ownF.block j hj))⟩
      case measure => simp [intOf]; omega
    · obtain rfl : n2 = n := by omega
      have hall := Lib.hid (show q.take n2 = q from List.take_of_length_le (by rw [hlq.out]; exact Nat.le_refl _))
      clear hG hE
      go_wp2_with fail
      go_ret
      exact ⟨a2, n2, c2, rfl, by rw [← hall.out]; exact HG.out, HE.out⟩

/-- What readFamilies leaves. -/
def RQ2 (w : World) (f g : List (List Int)) (e : Ending) (w' : World) : Prop :=
  ∃ a n c b m d, e = .returned (.tuple #[.slice a n c, .slice b m d, .bool (ok2 f g)]) ∧ OwnC w' w.heap.size a n c (rdF f) ∧ OwnC w' w.heap.size b m d (rdF g) ∧ (∀ k, (Value.slice a n c).ownBlock = some k → (Value.slice b m d).ownBlock ≠ some k) ∧ Ext none w w'
theorem retT {a b : Value} {x y : Bool} (h : x = y) : Ending.returned (.tuple #[a, b, .bool y]) = .returned (.tuple #[a, b, .bool x]) := by rw [h]
/-- append of a slice of masks that may be nil -/
theorem wpl_crews (t : TypeId) (ht : Tryd.prog.underlying t = some (.slice 62)) {ops : Array Oper} {rest : List Oper} {o : Oper} {a : Act} {w : World} {Q : Exit → Act → World → Prop}
    (hg : o.guard = none) (s x : Operand) (ho : o.op = Op.call { callee := Callee.builtin Builtin.append, args := #[s, x], argTypes := #[t, t] })
    (B : Nat) (ad : Option Addr) (n c : Nat) (q : List Nat) (hs : a.eval s = .slice ad n c) (hown : OwnC w B ad n c q)
    (B2 : Nat) (sa : Option Addr) (m cs : Nat) (p : List Nat) (hx : a.eval x = .slice sa m cs) (hsrc : OwnC w B2 sa m cs p) (hlen : n + m ≤ 1000000) (hB : B ≤ w.heap.size)
    (hK : ∀ a' c' w', OwnC w' B a' (n + m) c' (q ++ p) → w.grownBy w' (Value.slice ad n c).ownBlock → wpList Tryd.prog ops Q rest (a.put o.dst (.slice a' (n + m) c')) w') :
    wpList Tryd.prog ops Q (o :: rest) a w := by
  obtain ⟨i0, hi, hz0, hz1, hz2⟩ := info_parts crewInfo
  cases sa with
  | some sa =>
    refine wpl_app hg s x t ho B 62 i0 (.int .u64 0) 8 ht hi hz0 hz1 hz2 rfl ad n c _ hs hown sa m cs _ hx hsrc.crs ?_ hlen (by decide) hB fun a' c' w' k1 k2 _ _ => hK a' c' w' (by unfold OwnC; rw [List.map_append]; exact k1) k2
    intro u hu
    obtain ⟨y, _, rfl⟩ := List.mem_map.1 hu
    rfl
  | none =>
    have h0 : m = 0 ∧ cs = 0 := by
      rcases hsrc.2 with ⟨hv, h0⟩ | ⟨g, cap, _, hv, _⟩
      · injection hv with _ _ hc; exact ⟨h0, hc⟩
      · injection hv with h _ _; cases h
    obtain ⟨rfl, rfl⟩ := h0
    have hp : p = [] := List.eq_nil_of_length_eq_zero hsrc.len
    subst hp
    refine wpList_append_own_none hg s x t ho B 62 i0 1 ht hi _ n _ hs hown hx ?_
    exact hK ad c w (by rw [List.append_nil]; exact hown) (World.grownBy.refl _ _)

theorem unisT_len {p q : List Nat} (hp : p.length ≤ 20) (hq : q.length ≤ 20) (k j : Nat) (c : Nat) : (unis (p.take k) q ++ (q.take j).map (fun y => c ||| y)).length ≤ 420 := by
  rw [List.length_append, unis_len, List.length_map, List.length_take, List.length_take]
  have h3 : min k p.length * q.length ≤ 20 * 20 := Nat.mul_le_mul (by omega) hq
  omega
end Go.Proofs.YtjjjpakgnipghaaDoor
