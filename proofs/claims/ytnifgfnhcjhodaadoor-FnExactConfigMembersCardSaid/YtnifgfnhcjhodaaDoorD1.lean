/- Drawing: the reader l6Rd of package spec and its method pick. Conditions: each lemma's own. -/
import Derived.Test.YtnifgfnhcjhodaaDoorPW
namespace Go.Proofs.YtnifgfnhcjhodaaDoor
open Go.RowKit
set_option linter.unusedVariables false

theorem ofInt_nat64 (a : Nat) (ha : a < 18446744073709551616) : (BitVec.ofInt 64 (a : Int)).toNat = a := by
  rw [BitVec.ofInt_natCast, BitVec.toNat_ofNat]; exact Nat.mod_eq_of_lt ha
theorem xor_i64 (a b : Nat) (ha : a < 4611686018427387904) (hb : b < 4611686018427387904) : bits .xor .i64 (a : Int) (b : Int) = ((a ^^^ b : Nat) : Int) := by
  have hx : a ^^^ b < 2 ^ 62 := Nat.xor_lt_two_pow (by omega) (by omega)
  show IntKind.i64.wrap ((BitVec.ofInt 64 (a : Int) ^^^ BitVec.ofInt 64 (b : Int)).toNat : Int) = _
  rw [BitVec.toNat_xor, ofInt_nat64 a (by omega), ofInt_nat64 b (by omega)]
  exact IntWalk.i64_in _ ⟨by omega, by omega⟩

/-- The reader: its bytes lie below its own block; its place is at most k. -/
def Rd (w : World) (rb k : Nat) : Prop :=
  ∃ (ba : Option Addr) (bn bc : Nat) (p : Int) (ty : TypeId), w.heap[rb]? = some (.cells #[.slice ba bn bc, .int .i64 p] ty (0, 0)) ∧ 0 ≤ p ∧ p ≤ k ∧ bn ≤ 2000 ∧
    ∀ i, i < bn → ∃ b off c, ba = some ⟨b, off, none⟩ ∧ b < rb ∧ w.cell? ⟨b, off + i, none⟩ = some (.int .u8 c) ∧ 0 ≤ c ∧ c ≤ 255

theorem Rd.ext {w w' : World} {rb k : Nat} (h : Rd w rb k) (hx : Ext none w w') : Rd w' rb k := by
  obtain ⟨ba, bn, bc, p, ty, hb, h1, h2, h3, h4⟩ := h
  refine ⟨ba, bn, bc, p, ty, hx.blk hb (by simp), h1, h2, h3, fun i hi => ?_⟩
  obtain ⟨b, off, c, ha, hlt, hc, h⟩ := h4 i hi
  exact ⟨b, off, c, ha, hlt, hx.cell hc, h⟩
theorem Rd.grown {w w' : World} {rb k : Nat} {row : Option Nat} (h : Rd w rb k) (hg : w.grownBy w' row) (hr : ∀ j, row = some j → rb < j) : Rd w' rb k := by
  obtain ⟨ba, bn, bc, p, ty, hb, h1, h2, h3, h4⟩ := h
  refine ⟨ba, bn, bc, p, ty, (hg.block rb (Array.getElem?_eq_some_iff.1 hb).1 (fun e => by have := hr _ e.symm; omega)).trans hb, h1, h2, h3, fun i hi => ?_⟩
  obtain ⟨b, off, c, ha, hlt, hc, h⟩ := h4 i hi
  exact ⟨b, off, c, ha, hlt, hg.cell hc (fun e => by have := hr _ e.symm; simp at this; omega), h⟩
theorem Rd.lt {w : World} {rb k : Nat} (h : Rd w rb k) : rb < w.heap.size := by
  obtain ⟨ba, bn, bc, p, ty, hb, _⟩ := h
  exact (Array.getElem?_eq_some_iff.1 hb).1
theorem Rd.more {w : World} {rb k k' : Nat} (h : Rd w rb k) (hk : k ≤ k') : Rd w rb k' := by
  obtain ⟨ba, bn, bc, p, ty, hb, h1, h2, h⟩ := h
  exact ⟨ba, bn, bc, p, ty, hb, h1, by omega, h⟩
theorem Rd.draws {w : World} {rb k : Nat} (h : Rd w rb k) (n : Nat) : Rd (w.drewN n) rb k := h.ext (Ext.draws _ _ _)

/-- What pick leaves: a number below n. -/
def PickR (w : World) (rb k : Nat) (n : Int) (e : Ending) (w' : World) : Prop :=
  ∃ x : Int, e = .returned (.int .i64 x) ∧ 0 ≤ x ∧ x < n ∧ Rd w' rb (k + 1) ∧ Ext (some rb) w w'

theorem pick_world {w : World} {rb k : Nat} {ba : Option Addr} {bn bc : Nat} {p : Int} {ty : TypeId} (hb : w.heap[rb]? = some (.cells #[.slice ba bn bc, .int .i64 p] ty (0, 0))) (h1 : 0 ≤ p) (h2 : p ≤ k) (h3 : bn ≤ 2000)
    (h4 : ∀ i, i < bn → ∃ b off c, ba = some ⟨b, off, none⟩ ∧ b < rb ∧ w.cell? ⟨b, off + i, none⟩ = some (.int .u8 c) ∧ 0 ≤ c ∧ c ≤ 255) (q : Nat) :
    Rd ((w.setCell ⟨rb, 1, none⟩ (.int .i64 (p + 1))).drewN q) rb (k + 1) ∧ Ext (some rb) w ((w.setCell ⟨rb, 1, none⟩ (.int .i64 (p + 1))).drewN q) := by
  refine ⟨Rd.draws ⟨ba, bn, bc, p + 1, ty, ?_, by omega, by omega, h3, fun i hi => ?_⟩ q, ((Ext.refl _ w).set (.inr rfl) _).drewN q⟩
  · simp [World.setCell, Array.getElem?_modify, hb]
  · obtain ⟨b, off, c, ha, hlt, hc, h⟩ := h4 i hi
    refine ⟨b, off, c, ha, hlt, ?_, h⟩
    rw [World.cell?_of_block (w := w) (Below.heap_setCell w _ _ _ (by show b ≠ rb; omega))]
    exact hc

theorem pick_val (c d : Int) (K bn : Nat) (n : Int) (hc : 0 ≤ c) (hc2 : c ≤ 255) (hd : 0 ≤ d) (hd2 : d ≤ 255) (hK : K ≤ 1000000) (hb : 0 < bn) (hn : 1 ≤ n) :
    0 ≤ (bits BinOp.xor IntKind.i64 (wrap64 (c * 131 + d * 1117 + ↑K * 29 + wrap64 (wrap64 (↑K / ↑bn) * 53))) (wrap64 ((wrap64 (c * 131 + d * 1117 + ↑K * 29 + wrap64 (wrap64 (↑K / ↑bn) * 53))).tdiv 64))).tmod n ∧
    (bits BinOp.xor IntKind.i64 (wrap64 (c * 131 + d * 1117 + ↑K * 29 + wrap64 (wrap64 (↑K / ↑bn) * 53))) (wrap64 ((wrap64 (c * 131 + d * 1117 + ↑K * 29 + wrap64 (wrap64 (↑K / ↑bn) * 53))).tdiv 64))).tmod n < n := by
  have hq : (K : Int) / (bn : Int) = ((K / bn : Nat) : Int) := by simp
  have hq2 : K / bn ≤ K := Nat.div_le_self _ _
  rw [hq]
  clear hq
  generalize K / bn = Q at hq2 ⊢
  rw [IntWalk.wrap64_in (Q : Int) ⟨by omega, by omega⟩, IntWalk.wrap64_in ((Q : Int) * 53) ⟨by omega, by omega⟩]
  generalize hX : c * 131 + d * 1117 + (K : Int) * 29 + (Q : Int) * 53 = X
  have hX0 : 0 ≤ X := by omega
  have hX1 : X ≤ 1000000000 := by omega
  obtain ⟨Y, rfl⟩ := Int.eq_ofNat_of_zero_le hX0
  rw [IntWalk.wrap64_in (Y : Int) ⟨by omega, by omega⟩]
  have ht : (Y : Int).tdiv 64 = ((Y / 64 : Nat) : Int) := rfl
  rw [ht, IntWalk.wrap64_in ((Y / 64 : Nat) : Int) ⟨by omega, by omega⟩, xor_i64 _ _ (by omega) (by omega)]
  generalize Y ^^^ Y / 64 = Z
  rw [Int.tmod_eq_emod_of_nonneg (by omega)]
  exact ⟨Int.emod_nonneg _ (by omega), Int.emod_lt_of_pos _ (by omega)⟩

end Go.Proofs.YtnifgfnhcjhodaaDoor
