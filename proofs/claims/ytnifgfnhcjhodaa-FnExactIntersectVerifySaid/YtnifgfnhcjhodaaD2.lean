/- Drawing member sets: l6Open, l91Set and the Draw functions of member sets; the helpers of package laws on sets. Conditions: each lemma's own. -/
import Derived.Test.YtnifgfnhcjhodaaD1
import Derived.Test.YtnifgfnhcjhodaaS2
import Derived.Test.YtnifgfnhcjhodaaPB
import Derived.Test.YtnifgfnhcjhodaaPM
import Derived.Test.YtnifgfnhcjhodaaX1
import Derived.OpenShut
namespace Go.Proofs.Ytnifgfnhcjhodaa
open Go.RowKit
set_option linter.unusedVariables false

/-- The code that a statement gets: a slice of bytes. -/
def Bytes (w : World) (a : Option Addr) (n c : Nat) : Prop :=
  n ≤ c ∧ c ≤ maxLen ∧ ∀ i, i < n → ∃ b off x, a = some ⟨b, off, none⟩ ∧ w.cell? ⟨b, off + i, none⟩ = some (.int .u8 x) ∧ 0 ≤ x ∧ x ≤ 255
theorem Bytes.ext {w w' : World} {a : Option Addr} {n c : Nat} (h : Bytes w a n c) (hx : Ext none w w') : Bytes w' a n c := by
  refine ⟨h.1, h.2.1, fun i hi => ?_⟩
  obtain ⟨b, off, x, ha, hc, h⟩ := h.2.2 i hi
  exact ⟨b, off, x, ha, hx.cell hc, h⟩
theorem Bytes.le {w : World} {a : Option Addr} {n c : Nat} (h : Bytes w a n c) : n ≤ 9223372036854775807 := Nat.le_trans h.1 h.2.1
theorem Bytes.take {w : World} {a : Option Addr} {n c m : Nat} (h : Bytes w a n c) (hm : m ≤ n) : Bytes w a m c :=
  ⟨Nat.le_trans hm h.1, h.2.1, fun i hi => h.2.2 i (Nat.lt_of_lt_of_le hi hm)⟩
theorem Bytes.rd {w : World} {a : Option Addr} {n c : Nat} (h : Bytes w a n c) (hn : n ≤ 2000) (t : TypeId) : Rd (w.alloc (.cells #[.slice a n c, .int .i64 0] t)) w.heap.size 0 := by
  refine ⟨a, n, c, 0, t, heap_alloc_new w _, by omega, by omega, hn, fun i hi => ?_⟩
  obtain ⟨b, off, x, ha, hc, h⟩ := h.2.2 i hi
  have hlt : b < w.heap.size := World.block_lt_of_cell? w _ hc
  exact ⟨b, off, x, ha, hlt, by rw [World.cell?_alloc_lt w _ _ hlt]; exact hc, h⟩

theorem bytes_of {w : World} {a : Option Addr} {n c : Nat} {zs : List Int}
    (h : (a = none ∧ n = 0 ∧ c = 0 ∧ zs = []) ∨ ∃ x : Addr, a = some x ∧ n ≤ c ∧ c ≤ maxLen ∧ zs.length = c ∧ (∀ i, i < zs.length → w.cell? (x.add i) = some (.int .u8 (zs.getD i 0))) ∧ ∀ n ∈ zs, (Lit.int .u8 n).wf = true) :
    Bytes w a n c := by
  rcases h with ⟨_, rfl, rfl, _⟩ | ⟨x, rfl, hnc, hm, hl, hc, hw⟩
  · exact ⟨Nat.le_refl _, by simp [maxLen], fun i hi => absurd hi (by omega)⟩
  · refine ⟨hnc, hm, fun i hi => ?_⟩
    obtain ⟨b, off, sp⟩ := x
    have h0 := hc 0 (by omega)
    have hsp : sp = none := by
      cases sp with
      | none => rfl
      | some s =>
        simp only [Addr.add, if_true, World.cell?] at h0
        split at h0 <;> simp at h0
    subst hsp
    have hi' := hc i (by omega)
    have ha : (⟨b, off, none⟩ : Addr).add i = ⟨b, off + i, none⟩ := by
      unfold Addr.add; split <;> simp_all
    rw [ha] at hi'
    have hwf := hw (zs.getD i 0) (by rw [List.getD_eq_getElem?_getD, List.getElem?_eq_getElem (by omega)]; simp)
    have hb := bounds_u8 hwf
    exact ⟨b, off, _, rfl, hi', hb.1, hb.2⟩

def OpenR (w : World) (e : Ending) (w' : World) : Prop := e = .returned (.pointer (some ⟨w.heap.size, 0, none⟩)) ∧ Rd w' w.heap.size 0 ∧ Ext none w w'
set_option maxHeartbeats 400000 in
theorem l6Open_any {a : Option Addr} {n c : Nat} {w : World} (h : Bytes w a n c) :
    Calls Try.prog 29 #[.slice a n c] w (OpenR w) := by
  have hn := h.le
  have hc : 2000 < n → 2000 ≤ c := fun _ => by have := h.1; omega
  by_cases hl : 2000 < n
  · have hc := hc hl
    have hr := Lib.hid ((h.take (m := 2000) (by omega)).rd (by omega) 69)
    go_enter Try.func29, Try.ntmps29
    go_wp2_with fail
    go_ret
    exact ⟨rfl, hr.out, (Ext.refl _ _).alloc _⟩
  · have hr := Lib.hid (h.rd (by omega) 69)
    go_enter Try.func29, Try.ntmps29
    go_wp2_with fail
    go_ret
    exact ⟨rfl, hr.out, (Ext.refl _ _).alloc _⟩



def SetR (w : World) (rb k : Nat) (e : Ending) (w' : World) : Prop :=
  ∃ a n c xs, e = .returned (.slice a n c) ∧ OwnI w' w.heap.size a n c xs ∧ n ≤ 7 ∧ Rd w' rb k ∧ Ext (some rb) w w'

theorem OwnI.lit2 (w : World) (x y : Int) : OwnI (w.alloc (.cells #[.int .i64 x, .int .i64 y] 3)) w.heap.size (some ⟨w.heap.size, 0, none⟩) 2 2 [x, y] :=
  World.ownsRow_lit w #[.int .i64 x, .int .i64 y] 2 (Nat.le_refl _) (by simp [maxLen]) rfl

/-- What a function that draws two sets leaves. -/
def TwoR (w : World) (e : Ending) (w' : World) : Prop :=
  ∃ a n c xs b m d ys, e = .returned (.tuple #[.slice a n c, .slice b m d]) ∧ Ints w' a n xs ∧ Ints w' b m ys ∧ Ext none w w'


/-- The set of a number: setOf. -/
def setN (q : Int) : Nat := (q * 37 % 64).toNat
theorem setN_lt (q : Int) : setN q < 64 := by unfold setN; omega
end Go.Proofs.Ytnifgfnhcjhodaa
