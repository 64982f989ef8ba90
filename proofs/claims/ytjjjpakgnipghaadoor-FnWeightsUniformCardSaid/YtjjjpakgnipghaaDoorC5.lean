/- The expressions of package impl: the parser's small steps. Conditions: each lemma's own. -/
import Derived.Test.YtjjjpakgnipghaaDoorPB
import Derived.Test.YtjjjpakgnipghaaDoorPA
import Derived.Lib.Strings
import Derived.Lib.IndexBytes
namespace Go.Proofs.YtjjjpakgnipghaaDoor
open Go.RowKit
set_option linter.unusedVariables false

/-- The parser stands at the text L. -/
def Pr (w : World) (pb : Nat) (L : List UInt8) : Prop :=
  ∃ (s : ByteArray) (ty : TypeId), w.heap[pb]? = some (.cells #[.string s] ty (0, 0)) ∧ byt s = L ∧ s.size ≤ 1000000
theorem Pr.lt {w : World} {pb : Nat} {L : List UInt8} (h : Pr w pb L) : pb < w.heap.size := by
  obtain ⟨s, ty, hb, _⟩ := h
  exact (Array.getElem?_eq_some_iff.1 hb).1
theorem Pr.ext {w w' : World} {pb : Nat} {L : List UInt8} (h : Pr w pb L) (hx : Ext none w w') : Pr w' pb L := by
  obtain ⟨s, ty, hb, h⟩ := h
  exact ⟨s, ty, hx.blk hb (by simp), h⟩
theorem Pr.grown {w w' : World} {pb : Nat} {L : List UInt8} {row : Option Nat} (h : Pr w pb L) (hx : w.grownBy w' row) (hr : row ≠ some pb) : Pr w' pb L := by
  obtain ⟨s, ty, hb, h⟩ := h
  exact ⟨s, ty, (hx.block pb (Array.getElem?_eq_some_iff.1 hb).1 (Ne.symm hr)).trans hb, h⟩

theorem empty_iff {s : ByteArray} {L : List UInt8} (h : byt s = L) : s.toList.isEmpty = L.isEmpty := by
  rw [Lib.toList_data, ← h]; rfl
theorem Pr.set {w : World} {pb : Nat} {s : ByteArray} {ty : TypeId} {b : UInt8} {r : List UInt8} (hb : w.heap[pb]? = some (.cells #[.string s] ty (0, 0))) (hs : byt s = b :: r) (hz : s.size ≤ 1000000) :
    Pr (w.setCell ⟨pb, 0, none⟩ (.string (s.extract 1 s.size))) pb r ∧ Ext (some pb) w (w.setCell ⟨pb, 0, none⟩ (.string (s.extract 1 s.size))) := by
  have e : byt (s.extract 1 s.size) = r := by
    unfold byt; rw [Lib.extract_to_end]
    have : s.data.toList = b :: r := hs
    rw [this]; rfl
  refine ⟨⟨_, ty, one_setCell hb, e, ?_⟩, (Ext.refl _ _).set (.inr rfl) _⟩
  rw [← byt_len, e]
  have := byt_len s
  rw [hs] at this; simp at this; omega

set_option maxHeartbeats 1000000 in
theorem digit_yes {w : World} {pb : Nat} {b : UInt8} {r : List UInt8} (h : Pr w pb (b :: r)) (hb : isDg b = true) :
    Calls Tryd.prog 64 #[.pointer (some ⟨pb, 0, none⟩)] w fun e w' => e = .returned (.tuple #[.int .i64 (dgv b : Nat), .bool true]) ∧ Pr w' pb r ∧ Ext (some pb) w w' := by
  obtain ⟨s, ty, hp, hs, hz⟩ := h
  have hfin := Lib.hid (Pr.set hp hs hz)
  have hemp := empty_iff hs
  have hsz : 0 < s.size := by rw [← byt_len, hs]; simp
  have hbyte : (s[0]'hsz) = b := by
    have := byt_at hsz
    rw [hs] at this; simpa using this.symm
  have hsub : ((s[0]'hsz).toNat : Int) - 48 = ((dgv b : Nat) : Int) := by rw [hbyte]; exact dgv_sub hb
  have hbb := hb
  simp only [isDg, Bool.and_eq_true, decide_eq_true_eq] at hbb
  have hlo : (49 : Int) ≤ ((s[0]'hsz).toNat : Int) := by rw [hbyte]; omega
  have hhi : ((s[0]'hsz).toNat : Int) ≤ 54 := by rw [hbyte]; omega
  have hc : w.cell? ⟨pb, 0, none⟩ = some (.string s) := by simp [World.cell?, hp]
  have hf : w.frozen? ⟨pb, 0, none⟩ = false := by simp [World.frozen?, hp]
  have h1s : (1 : Int) ≤ (s.size : Int) := by omega
  rw [List.isEmpty_cons] at hemp
  clear hbyte hbb hp hs hb
  go_enter Tryd.func64, Tryd.ntmps64
  go_wp2_with fail
  go_ret2
  exact ⟨rfl, hfin.out.1, hfin.out.2⟩

set_option maxHeartbeats 1000000 in
theorem digit_no {w : World} {pb : Nat} {L : List UInt8} (h : Pr w pb L) (hb : ∀ b r, L = b :: r → isDg b = false) :
    Calls Tryd.prog 64 #[.pointer (some ⟨pb, 0, none⟩)] w fun e w' => e = .returned (.tuple #[.int .i64 0, .bool false]) ∧ w = w' := by
  obtain ⟨s, ty, hp, hs, hz⟩ := h
  have hc : w.cell? ⟨pb, 0, none⟩ = some (.string s) := by simp [World.cell?, hp]
  have hemp := empty_iff hs
  cases L with
  | nil =>
    rw [List.isEmpty_nil] at hemp
    clear hp hs hb
    go_enter Tryd.func64, Tryd.ntmps64
    go_wp2_with fail
    go_ret2
    exact ⟨rfl, rfl⟩
  | cons b r =>
    have hbb := hb b r rfl
    have hsz : 0 < s.size := by rw [← byt_len, hs]; simp
    have hbyte : (s[0]'hsz) = b := by
      have := byt_at hsz
      rw [hs] at this; simpa using this.symm
    have h2 : ((s[0]'hsz).toNat : Int) < 49 ∨ 54 < ((s[0]'hsz).toNat : Int) := by
      simp only [isDg, Bool.and_eq_false_iff, decide_eq_false_iff_not] at hbb
      rw [hbyte]; omega
    rw [List.isEmpty_cons] at hemp
    clear hbyte hbb hp hs hb
    rcases h2 with h2 | h2
    all_goals
      go_enter Tryd.func64, Tryd.ntmps64
      go_wp2_with fail
      go_ret2
      exact ⟨rfl, rfl⟩

set_option maxHeartbeats 1000000 in
theorem take_yes {w : World} {pb : Nat} {b : UInt8} {r : List UInt8} {q : Int} (h : Pr w pb (b :: r)) (hq : q = (b.toNat : Int)) :
    Calls Tryd.prog 65 #[.pointer (some ⟨pb, 0, none⟩), .int .u8 q] w fun e w' => e = .returned (.bool true) ∧ Pr w' pb r ∧ Ext (some pb) w w' := by
  obtain ⟨s, ty, hp, hs, hz⟩ := h
  have hfin := Lib.hid (Pr.set hp hs hz)
  have hemp := empty_iff hs
  have hsz : 0 < s.size := by rw [← byt_len, hs]; simp
  have hbyte : (s[0]'hsz) = b := by
    have := byt_at hsz
    rw [hs] at this; simpa using this.symm
  have hne : (((s[0]'hsz).toNat : Int) != q) = false := by rw [hbyte, hq]; simp
  have hc : w.cell? ⟨pb, 0, none⟩ = some (.string s) := by simp [World.cell?, hp]
  have hf : w.frozen? ⟨pb, 0, none⟩ = false := by simp [World.frozen?, hp]
  have h1s : (1 : Int) ≤ (s.size : Int) := by omega
  rw [List.isEmpty_cons] at hemp
  clear hbyte hp hs hq
  go_enter Tryd.func65, Tryd.ntmps65
  go_wp2_with fail
  go_ret
  exact ⟨rfl, hfin.out.1, hfin.out.2⟩

set_option maxHeartbeats 1000000 in
theorem take_no {w : World} {pb : Nat} {L : List UInt8} {b : UInt8} {q : Int} (h : Pr w pb L) (hq : q = (b.toNat : Int)) (hb : L.head? ≠ some b) :
    Calls Tryd.prog 65 #[.pointer (some ⟨pb, 0, none⟩), .int .u8 q] w fun e w' => e = .returned (.bool false) ∧ w = w' := by
  obtain ⟨s, ty, hp, hs, hz⟩ := h
  have hc : w.cell? ⟨pb, 0, none⟩ = some (.string s) := by simp [World.cell?, hp]
  have hemp := empty_iff hs
  cases L with
  | nil =>
    rw [List.isEmpty_nil] at hemp
    clear hp hs hb hq
    go_enter Tryd.func65, Tryd.ntmps65
    go_wp2_with fail
    go_ret
    exact ⟨rfl, rfl⟩
  | cons x r =>
    have hsz : 0 < s.size := by rw [← byt_len, hs]; simp
    have hbyte : (s[0]'hsz) = x := by
      have := byt_at hsz
      rw [hs] at this; simpa using this.symm
    have hne : (((s[0]'hsz).toNat : Int) != q) = true := by
      rw [hbyte, hq, bne_iff_ne]
      intro h
      have : x = b := UInt8.toNat_inj.1 (by omega)
      exact hb (by rw [this]; rfl)
    rw [List.isEmpty_cons] at hemp
    clear hbyte hp hs hb hq
    go_enter Tryd.func65, Tryd.ntmps65
    go_wp2_with fail
    go_ret
    exact ⟨rfl, rfl⟩
end Go.Proofs.YtjjjpakgnipghaaDoor
