/- Drawing: the reader l6Rd of package spec and its method pick. Conditions: each lemma's own. -/
import Derived.Test.YtnifgfnhcjhodaaPW
namespace Go.Proofs.Ytnifgfnhcjhodaa
open Go.RowKit
set_option linter.unusedVariables false

theorem ofInt_nat64 (a : Nat) (ha : a < 18446744073709551616) : (BitVec.ofInt 64 (a : Int)).toNat = a := by
  rw [BitVec.ofInt_natCast, BitVec.toNat_ofNat]; exact Nat.mod_eq_of_lt ha
theorem xor_i64 (a b : Nat) (ha : a < 4611686018427387904) (hb : b < 4611686018427387904) : bits .xor .i64 (a : Int) (b : Int) = ((a ^^^ b : Nat) : Int) := by
  have hx : a ^^^ b < 2 ^ 62 := Nat.xor_lt_two_pow (by omega) (by omega)
  show IntKind.i64.wrap ((BitVec.ofInt 64 (a : Int) ^^^ BitVec.ofInt 64 (b : Int)).toNat : Int) = _
  rw [BitVec.toNat_xor, ofInt_nat64 a (by omega), ofInt_nat64 b (by omega)]
  exact IntWalk.i64_in _ ⟨by omega, by omega⟩

/-- The reader: its bytes lie below its own block; its place is at most k. -/
def Rd (w : World) (rb k : Nat) : Prop :=
  ∃ (ba : Option Addr) (bn bc : Nat) (p : Int) (ty : TypeId), w.heap[rb]? = some (.cells #[.slice ba bn bc, .int .i64 p] ty (0, 0)) ∧ 0 ≤ p ∧ p ≤ k ∧ bn ≤ 2000 ∧
    ∀ i, i < bn → ∃ b off c, ba = some ⟨b, off, none⟩ ∧ b < rb ∧ w.cell? ⟨b, off + i, none⟩ = some (.int .u8 c) ∧ 0 ≤ c ∧ c ≤ 255

theorem Rd.ext {w w' : World} {rb k : Nat} (h : Rd w rb k) (hx : Ext none w w') : Rd w' rb k := by
  obtain ⟨ba, bn, bc, p, ty, hb, h1, h2, h3, h4⟩ := h
  refine ⟨ba, bn, bc, p, ty, hx.blk hb (by simp), h1, h2, h3, fun i hi => ?_⟩
  obtain ⟨b, off, c, ha, hlt, hc, h⟩ := h4 i hi
  exact ⟨b, off, c, ha, hlt, hx.cell hc, h⟩
theorem Rd.grown {w w' : World} {rb k : Nat} {row : Option Nat} (h : Rd w rb k) (hg : w.grownBy w' row) (hr : ∀ j, row = some j → rb < j) : Rd w' rb k := by
  obtain ⟨ba, bn, bc, p, ty, hb, h1, h2, h3, h4⟩ := h
  refine ⟨ba, bn, bc, p, ty, (hg.block rb (Array.getElem?_eq_some_iff.1 hb).1 (fun e => by have := hr _ e.symm; omega)).trans hb, h1, h2, h3, fun i hi => ?_⟩
  obtain ⟨b, off, c, ha, hlt, hc, h⟩ := h4 i hi
  exact ⟨b, off, c, ha, hlt, hg.cell hc (fun e => by have := hr _ e.symm; simp at this; omega), h⟩
theorem Rd.lt {w : World} {rb k : Nat} (h : Rd w rb k) : rb < w.heap.size := by
  obtain ⟨ba, bn, bc, p, ty, hb, _⟩ := h
  exact (Array.getElem?_eq_some_iff.1 hb).1
theorem Rd.more {w : World} {rb k k' : Nat} (h : Rd w rb k) (hk : k ≤ k') : Rd w rb k' := by
  obtain ⟨ba, bn, bc, p, ty, hb, h1, h2, h⟩ := h
  exact ⟨ba, bn, bc, p, ty, hb, h1, by omega, h⟩
theorem Rd.draws {w : World} {rb k : Nat} (h : Rd w rb k) (n : Nat) : Rd (w.drewN n) rb k := h.ext (Ext.draws _ _ _)

/-- What pick leaves: a number below n. -/
def PickR (w : World) (rb k : Nat) (n : Int) (e : Ending) (w' : World) : Prop :=
  ∃ x : Int, e = .returned (.int .i64 x) ∧ 0 ≤ x ∧ x < n ∧ Rd w' rb (k + 1) ∧ Ext (some rb) w w'

theorem pick_world {w : World} {rb k : Nat} {ba : Option Addr} {bn bc : Nat} {p : Int} {ty : TypeId} (hb : w.heap[rb]? = some (.cells #[.slice ba bn bc, .int .i64 p] ty (0, 0))) (h1 : 0 ≤ p) (h2 : p ≤ k) (h3 : bn ≤ 2000)
    (h4 : ∀ i, i < bn → ∃ b off c, ba = some ⟨b, off, none⟩ ∧ b < rb ∧ w.cell? ⟨b, off + i, none⟩ = some (.int .u8 c) ∧ 0 ≤ c ∧ c ≤ 255) (q : Nat) :
    Rd ((w.setCell ⟨rb, 1, none⟩ (.int .i64 (p + 1))).drewN q) rb (k + 1) ∧ Ext (some rb) w ((w.setCell ⟨rb, 1, none⟩ (.int .i64 (p + 1))).drewN q) := by
  refine ⟨Rd.draws ⟨ba, bn, bc, p + 1, ty, ?_, by omega, by omega, h3, fun i hi => ?_⟩ q, ((Ext.refl _ w).set (.inr rfl) _).drewN q⟩
  · simp [World.setCell, Array.getElem?_modify, hb]
  · obtain ⟨b, off, c, ha, hlt, hc, h⟩ := h4 i hi
    refine ⟨b, off, c, ha, hlt, ?_, h⟩
    rw [World.cell?_of_block (w := w) (Below.heap_setCell w _ _ _ (by show b ≠ rb; omega))]
    exact hc

theorem pick_val (c d : Int) (K bn : Nat) (n : Int) (hc : 0 ≤ c) (hc2 : c ≤ 255) (hd : 0 ≤ d) (hd2 : d ≤ 255) (hK : K ≤ 1000000) (hb : 0 < bn) (hn : 1 ≤ n) :
    0 ≤ (bits BinOp.xor IntKind.i64 (wrap64 (c * 131 + d * 1117 + ↑K * 29 + wrap64 (wrap64 (↑K / ↑bn) * 53))) (wrap64 ((wrap64 (c * 131 + d * 1117 + ↑K * 29 + wrap64 (wrap64 (↑K / ↑bn) * 53))).tdiv 64))).tmod n ∧
    (bits BinOp.xor IntKind.i64 (wrap64 (c * 131 + d * 1117 + ↑K * 29 + wrap64 (wrap64 (↑K / ↑bn) * 53))) (wrap64 ((wrap64 (c * 131 + d * 1117 + ↑K * 29 + wrap64 (wrap64 (↑K / ↑bn) * 53))).tdiv 64))).tmod n < n := by
  have hq : (K : Int) / (bn : Int) = ((K / bn : Nat) : Int) := by simp
  have hq2 : K / bn ≤ K := Nat.div_le_self _ _
  rw [hq]
  clear hq
  generalize K / bn = Q at hq2 ⊢
  rw [IntWalk.wrap64_in (Q : Int) ⟨by omega, by omega⟩, IntWalk.wrap64_in ((Q : Int) * 53) ⟨by omega, by omega⟩]
  generalize hX : c * 131 + d * 1117 + (K : Int) * 29 + (Q : Int) * 53 = X
  have hX0 : 0 ≤ X := by omega
  have hX1 : X ≤ 1000000000 := by omega
  obtain ⟨Y, rfl⟩ := Int.eq_ofNat_of_zero_le hX0
  rw [IntWalk.wrap64_in (Y : Int) ⟨by omega, by omega⟩]
  have ht : (Y : Int).tdiv 64 = ((Y / 64 : Nat) : Int) := rfl
  rw [ht, IntWalk.wrap64_in ((Y / 64 : Nat) : Int) ⟨by omega, by omega⟩, xor_i64 _ _ (by omega) (by omega)]
  generalize Y ^^^ Y / 64 = Z
  rw [Int.tmod_eq_emod_of_nonneg (by omega)]
  exact ⟨Int.emod_nonneg _ (by omega), Int.emod_lt_of_pos _ (by omega)⟩

set_option maxHeartbeats 1000000 in
theorem pick_any {rb k : Nat} {n : Int} {w : World} (h : Rd w rb k) (hk : k ≤ 1000000) (hn1 : 1 ≤ n) (hn2 : n ≤ 1000000) :
    Calls Try.prog 43 #[.pointer (some ⟨rb, 0, none⟩), .int .i64 n] w (PickR w rb k n) := by
  obtain ⟨ba, bn, bc, p, ty, hb, h1, h2, h3, h4⟩ := h
  have hc0 : w.cell? ⟨rb, 0, none⟩ = some (.slice ba bn bc) := by simp [World.cell?, hb]
  have hc1 : w.cell? ⟨rb, 1, none⟩ = some (.int .i64 p) := by simp [World.cell?, hb]
  have hf1 : w.frozen? ⟨rb, 1, none⟩ = false := by simp [World.frozen?, hb]
  obtain ⟨hw1, hw2⟩ := pick_world hb h1 h2 h3 h4 0
  have HW1 := Lib.hid hw1
  have HW2 := Lib.hid hw2
  have H4 := Lib.hid h4
  have HB := Lib.hid hb
  clear hw1 hw2 h4 hb
  by_cases hz : bn = 0
  · subst hz
    go_enter Try.func43, Try.ntmps43
    go_wp2_with fail
    go_ret
    exact ⟨0, rfl, by omega, by omega, HW1.out, HW2.out⟩
  · obtain ⟨K, rfl⟩ := Int.eq_ofNat_of_zero_le h1
    have hz0 : (0 : Int) < (bn : Int) := by omega
    have hzb : ((bn : Int) == 0) = false := by rw [beq_eq_false_iff_ne]; omega
    by_cases hlt : K < bn
    · obtain ⟨b, off, c, rfl, hbr, hc, hcl, hcu⟩ := H4.out K hlt
      have hmod := Lib.hid (show 0 ≤ c % n ∧ c % n < n from ⟨Int.emod_nonneg _ (by omega), Int.emod_lt_of_pos _ (by omega)⟩)
      have hcs : (w.setCell ⟨rb, 1, none⟩ (.int .i64 ((K : Int) + 1))).cell? ⟨b, off + K, none⟩ = some (.int .u8 c) := by
        rw [World.cell?_of_block (w := w) (Below.heap_setCell w _ _ _ (by show b ≠ rb; omega))]; exact hc
      go_enter Try.func43, Try.ntmps43
      go_wp2_with fail
      go_ret
      exact ⟨c % n, rfl, hmod.out.1, hmod.out.2, HW1.out, HW2.out⟩
    · have hpos : 0 < bn := by omega
      have i1 : K % bn < bn := Nat.mod_lt _ hpos
      have i2 : (K * 7 + 3) % bn < bn := Nat.mod_lt _ hpos
      obtain ⟨b, off, c, rfl, hbr, hc, hcl, hcu⟩ := H4.out _ i1
      obtain ⟨b', off', d, hbb, _, hd, hdl, hdu⟩ := H4.out _ i2
      simp only [Option.some.injEq, Addr.mk.injEq, and_true] at hbb
      obtain ⟨rfl, rfl⟩ := hbb
      have hcs : (w.setCell ⟨rb, 1, none⟩ (.int .i64 ((K : Int) + 1))).cell? ⟨b, off + K % bn, none⟩ = some (.int .u8 c) := by
        rw [World.cell?_of_block (w := w) (Below.heap_setCell w _ _ _ (by show b ≠ rb; omega))]; exact hc
      have hds : (w.setCell ⟨rb, 1, none⟩ (.int .i64 ((K : Int) + 1))).cell? ⟨b, off + (K * 7 + 3) % bn, none⟩ = some (.int .u8 d) := by
        rw [World.cell?_of_block (w := w) (Below.heap_setCell w _ _ _ (by show b ≠ rb; omega))]; exact hd
      clear hc hd
      obtain ⟨i, hi⟩ : ∃ i : Nat, i = K % bn := ⟨_, rfl⟩
      obtain ⟨j, hj⟩ : ∃ j : Nat, j = (K * 7 + 3) % bn := ⟨_, rfl⟩
      obtain ⟨u, hu⟩ : ∃ u : Int, u = (K : Int) * 7 := ⟨_, rfl⟩
      obtain ⟨v, hv⟩ : ∃ v : Int, v = (K : Int) * 7 + 3 := ⟨_, rfl⟩
      have e1 : (K : Int).tmod (bn : Int) = (i : Int) := by rw [hi]; rfl
      have e2 : IntKind.i64.wrap ((K : Int) * 7) = u := by rw [IntWalk.i64_in _ (by omega), hu]
      have e3 : IntKind.i64.wrap (u + 3) = v := by rw [IntWalk.i64_in _ (by omega), hu, hv]
      have e4 : v.tmod (bn : Int) = (j : Int) := by rw [hj, hv]; rfl
      rw [← hi] at i1 hcs
      rw [← hj] at i2 hds
      have j1 : (i : Int) < (bn : Int) := by omega
      have j2 : (j : Int) < (bn : Int) := by omega
      clear hi hj hu hv i1 i2
      go_enter Try.func43, Try.ntmps43
      go_wp2_with fail
      go_quiet (fail)
      go_wp2_with fail
      go_ret
      have hfin := pick_val c d K bn n hcl hcu hdl hdu (by omega) hpos hn1
      obtain ⟨hw1, hw2⟩ := pick_world HB.out h1 h2 h3 H4.out nq
      exact ⟨_, rfl, hfin.1, hfin.2, hw1, hw2⟩
end Go.Proofs.Ytnifgfnhcjhodaa
