/- Arguments that are families: what the frame of a law hands to its walk. Conditions: each lemma's own. -/
import Derived.Test.YtnifgfnhcjhodaaD8
import Derived.Test.YtnifgfnhcjhodaaX1
import Derived.Deep.Matrix
namespace Go.Proofs.Ytnifgfnhcjhodaa
open Go.RowKit
set_option linter.unusedVariables false

theorem cellsOf_row : Try.prog.cellsOf 26 = 1 := by kernel_rfl
theorem cellsOf_int : Try.prog.cellsOf 3 = 1 := by kernel_rfl
theorem famV_of {H : Type} {enc : TypeId × Value → H} {W : World} {a : Option Addr} {n c : Nat} {d : DataW H} {p : List MemPlace}
    (h : DataW.Trod enc Try.prog W 0 (fun _ => true) true 23 (.slice a n c) d p) : ∃ f, FamV W a n c f := by
  obtain ⟨fuel, hf⟩ := h
  rcases Deep.open_int_rows Try.underlying23 Try.underlying26 Try.underlying3 cellsOf_row cellsOf_int hf with ⟨hcs, _⟩ | ⟨x, len, cap, A, L, C, Z, hcs, _, hl, hm, _, hrows⟩
  · simp [Value.cells] at hcs
    obtain ⟨rfl, rfl, rfl⟩ := hcs
    exact ⟨[], Fam.nil _ _, fun _ => ⟨rfl, rfl⟩, Nat.le_refl _, by omega⟩
  · simp [Value.cells] at hcs
    obtain ⟨rfl, rfl, rfl⟩ := hcs
    refine ⟨(List.range n).map (fun r => (Z r).take (L r)), ?_, (fun h => by cases h), hl, by simp only [maxLen] at hm; omega⟩
    refine ⟨(List.range n).map (fun r => .slice (A r) (L r) (C r)), ⟨by simp, by omega, fun k hk => ?_⟩, by simp, fun k v xs hv hx => ?_⟩
    · obtain ⟨b, off, sp⟩ := x
      have h0 := (hrows k (by omega)).1
      have hsp : sp = none := by simpa [Addr.add] using World.cell?_spot (hrows 0 (by omega)).1
      subst hsp
      have ha : (⟨b, off, none⟩ : Addr).add k = ⟨b, off + k, none⟩ := by unfold Addr.add; split <;> simp_all
      rw [ha] at h0
      exact ⟨b, off, rfl, by rw [h0]; simp [hk]⟩
    · have hk : k < n := by have := (List.getElem?_eq_some_iff.1 hv).1; simpa using this
      simp [hk] at hv hx
      subst hv hx
      obtain ⟨_, h1, h2, h3, h4, h5, h6⟩ := hrows k (by omega)
      refine (Ints.row (c := C k) ?_)
      refine ints_of (c := C k) ?_
      cases hA : A k with
      | none =>
        have hc0 := h5 hA
        exact .inl ⟨rfl, by omega, hc0, List.eq_nil_of_length_eq_zero (by omega)⟩
      | some a' => exact .inr ⟨a', rfl, h1, h2, h3, fun i hi => (h6 a' hA).2 i (by omega), h4⟩
end Go.Proofs.Ytnifgfnhcjhodaa
