/- Drawing member sets: l6Open, l91Set and the Draw functions of member sets; the helpers of package laws on sets. Conditions: each lemma's own. -/
import Derived.Test.YtfccceogmhjljaaD1
import Derived.Test.YtfccceogmhjljaaS2
import Derived.Test.YtfccceogmhjljaaPB
import Derived.Test.YtfccceogmhjljaaPM
import Derived.Test.YtfccceogmhjljaaX1
import Derived.OpenShut
namespace Go.Proofs.Ytfccceogmhjljaa
open Go.RowKit
set_option linter.unusedVariables false

/-- The code that a statement gets: a slice of bytes. -/
def Bytes (w : World) (a : Option Addr) (n c : Nat) : Prop :=
  n ≤ c ∧ c ≤ maxLen ∧ ∀ i, i < n → ∃ b off x, a = some ⟨b, off, none⟩ ∧ w.cell? ⟨b, off + i, none⟩ = some (.int .u8 x) ∧ 0 ≤ x ∧ x ≤ 255
theorem Bytes.ext {w w' : World} {a : Option Addr} {n c : Nat} (h : Bytes w a n c) (hx : Ext none w w') : Bytes w' a n c := by
  refine ⟨h.1, h.2.1, fun i hi => ?_⟩
  obtain ⟨b, off, x, ha, hc, h⟩ := h.2.2 i hi
  exact ⟨b, off, x, ha, hx.cell hc, h⟩
theorem Bytes.le {w : World} {a : Option Addr} {n c : Nat} (h : Bytes w a n c) : n ≤ 9223372036854775807 := Nat.le_trans h.1 h.2.1
theorem Bytes.take {w : World} {a : Option Addr} {n c m : Nat} (h : Bytes w a n c) (hm : m ≤ n) : Bytes w a m c :=
  ⟨Nat.le_trans hm h.1, h.2.1, fun i hi => h.2.2 i (Nat.lt_of_lt_of_le hi hm)⟩
theorem Bytes.rd {w : World} {a : Option Addr} {n c : Nat} (h : Bytes w a n c) (hn : n ≤ 2000) (t : TypeId) : Rd (w.alloc (.cells #[.slice a n c, .int .i64 0] t)) w.heap.size 0 := by
  refine ⟨a, n, c, 0, t, heap_alloc_new w _, by omega, by omega, hn, fun i hi => ?_⟩
  obtain ⟨b, off, x, ha, hc, h⟩ := h.2.2 i hi
  have hlt : b < w.heap.size := World.block_lt_of_cell? w _ hc
  exact ⟨b, off, x, ha, hlt, by rw [World.cell?_alloc_lt w _ _ hlt]; exact hc, h⟩

theorem bytes_of {w : World} {a : Option Addr} {n c : Nat} {zs : List Int}
    (h : (a = none ∧ n = 0 ∧ c = 0 ∧ zs = []) ∨ ∃ x : Addr, a = some x ∧ n ≤ c ∧ c ≤ maxLen ∧ zs.length = c ∧ (∀ i, i < zs.length → w.cell? (x.add i) = some (.int .u8 (zs.getD i 0))) ∧ ∀ n ∈ zs, (Lit.int .u8 n).wf = true) :
    Bytes w a n c := by
  rcases h with ⟨_, rfl, rfl, _⟩ | ⟨x, rfl, hnc, hm, hl, hc, hw⟩
  · exact ⟨Nat.le_refl _, by simp [maxLen], fun i hi => absurd hi (by omega)⟩
  · refine ⟨hnc, hm, fun i hi => ?_⟩
    obtain ⟨b, off, sp⟩ := x
    have h0 := hc 0 (by omega)
    have hsp : sp = none := by
      cases sp with
      | none => rfl
      | some s =>
        simp only [Addr.add, if_true, World.cell?] at h0
        split at h0 <;> simp at h0
    subst hsp
    have hi' := hc i (by omega)
    have ha : (⟨b, off, none⟩ : Addr).add i = ⟨b, off + i, none⟩ := by
      unfold Addr.add; split <;> simp_all
    rw [ha] at hi'
    have hwf := hw (zs.getD i 0) (by rw [List.getD_eq_getElem?_getD, List.getElem?_eq_getElem (by omega)]; simp)
    have hb := bounds_u8 hwf
    exact ⟨b, off, _, rfl, hi', hb.1, hb.2⟩

def OpenR (w : World) (e : Ending) (w' : World) : Prop := e = .returned (.pointer (some ⟨w.heap.size, 0, none⟩)) ∧ Rd w' w.heap.size 0 ∧ Ext none w w'
set_option maxHeartbeats 400000 in
theorem l6Open_any {a : Option Addr} {n c : Nat} {w : World} (h : Bytes w a n c) :
    Calls Try.prog 52 #[.slice a n c] w (OpenR w) := by
  have hn := h.le
  have hc : 2000 < n → 2000 ≤ c := fun _ => by have := h.1; omega
  by_cases hl : 2000 < n
  · have hc := hc hl
    have hr := Lib.hid ((h.take (m := 2000) (by omega)).rd (by omega) 87)
    go_enter Try.func52, Try.ntmps52
    go_wp2_with fail
    go_ret
    exact ⟨rfl, hr.out, (Ext.refl _ _).alloc _⟩
  · have hr := Lib.hid (h.rd (by omega) 87)
    go_enter Try.func52, Try.ntmps52
    go_wp2_with fail
    go_ret
    exact ⟨rfl, hr.out, (Ext.refl _ _).alloc _⟩



def SetR (w : World) (rb k : Nat) (e : Ending) (w' : World) : Prop :=
  ∃ a n c xs, e = .returned (.slice a n c) ∧ OwnI w' w.heap.size a n c xs ∧ n ≤ 7 ∧ Rd w' rb k ∧ Ext (some rb) w w'

theorem OwnI.lit2 (w : World) (x y : Int) : OwnI (w.alloc (.cells #[.int .i64 x, .int .i64 y] 3)) w.heap.size (some ⟨w.heap.size, 0, none⟩) 2 2 [x, y] :=
  World.ownsRow_lit w #[.int .i64 x, .int .i64 y] 2 (Nat.le_refl _) (by simp [maxLen]) rfl

set_option maxHeartbeats 1000000 in
theorem l91Set_any {rb k : Nat} {w : World} (h : Rd w rb k) (hk : k ≤ 900000) :
    Calls Try.prog 55 #[.pointer (some ⟨rb, 0, none⟩)] w (SetR w rb (k + 3)) := by
  have hrb := h.lt
  go_enter Try.func55, Try.ntmps55
  go_wp2_with fail
  refine (pick_any h (by omega) (by omega) (by omega)).mono ?_; rintro e w1 ⟨x, rfl, hx0, hx1, hr1, he1⟩
  obtain ⟨c, rfl⟩ := Int.eq_ofNat_of_zero_le hx0
  go_wp2_with fail
  refine (l1OfMask_any (by omega)).mono ?_; rintro e w2 ⟨a, n, cp, rfl, ho, he2⟩
  have hr2 := hr1.ext he2
  have hn : n ≤ 6 := by rw [← ho.len]; exact mem_len
  have hs1 := he1.size
  have hrb1 := hr1.lt
  go_wp2_with fail
  refine (pick_any hr2 (by omega) (by omega) (by omega)).mono ?_; rintro e w3 ⟨y, rfl, hy0, hy1, hr3, he3⟩
  have ho3 := ho.ext he3 (fun j hj => by cases hj; exact hrb1)
  have he := (he1.trans he2.weak).trans he3
  clear ho hr1 hr2
  by_cases h0 : y = 0
  · subst h0
    go_wp2_with fail
    refine (pick_any hr3 (by omega) (by omega) (by omega)).mono ?_; rintro e w4 ⟨z, rfl, hz0, hz1, hr4, he4⟩
    have ho4 := ho3.ext he4 (fun j hj => by cases hj; exact hrb1)
    have hs4 := (he2.weak.trans (he3.trans he4)).size
    go_wp2_with (at_builtin; refine app_int _ rfl _ _ rfl w1.heap.size a n cp _ ho4 _ rfl rfl (by omega) hs4 ?_; intro g c' w5 ho5 hg5)
    go_ret
    exact ⟨_, _, _, _, rfl, OwnI.mono ho5 hs1, by omega, hr4.grown hg5 (fun j hj => Nat.lt_of_lt_of_le hrb1 (ho4.block j hj)), (he.trans he4).grown hg5 (fun j hj => .inl (Nat.le_trans hs1 (ho4.block j hj)))⟩
  · by_cases h1 : y = 1
    · subst h1
      go_wp2_with fail
      go_ret
      exact ⟨_, _, _, _, rfl, (OwnI.lit2 w3 2 1).mono he.size, by omega, (hr3.more (by omega)).ext ((Ext.refl _ _).alloc _), he.alloc _⟩
    · have b0 : (y == 0) = false := by rw [beq_eq_false_iff_ne]; exact h0
      have b1 : (y == 1) = false := by rw [beq_eq_false_iff_ne]; exact h1
      go_wp2_with fail
      go_ret
      exact ⟨_, _, _, _, rfl, ho3.mono hs1, by omega, hr3.more (by omega), he⟩


/-- What a function that draws two sets leaves. -/
def TwoR (w : World) (e : Ending) (w' : World) : Prop :=
  ∃ a n c xs b m d ys, e = .returned (.tuple #[.slice a n c, .slice b m d]) ∧ Ints w' a n xs ∧ Ints w' b m ys ∧ Ext none w w'


/-- The set of a number: setOf. -/
def setN (q : Int) : Nat := (q * 37 % 64).toNat
theorem setN_lt (q : Int) : setN q < 64 := by unfold setN; omega
set_option maxHeartbeats 400000 in
theorem setOf_any {q : Int} {w : World} (h0 : 0 ≤ q) (h1 : q ≤ 2000000) :
    Calls Try.prog 32 #[.int .i64 q] w (RI w none (mem (setN q))) := by
  have e := Lib.hid (show ofMaskL (q * 37 % 64) = mem (setN q) from by
    unfold ofMaskL; rw [show okMask (q * 37 % 64) = true from by simp only [okMask, Bool.and_eq_true, decide_eq_true_eq]; omega]; rfl)
  go_enter Try.func32, Try.ntmps32
  go_wp2_with fail
  refine (SetOfMask_any (by omega) (by omega)).mono ?_; rintro e w1 ⟨a, n, c, rfl, ho, hx⟩
  go_wp2_with fail
  go_ret
  exact ⟨_, _, _, rfl, by rw [← e.out]; exact ho, hx⟩



set_option maxHeartbeats 400000 in
theorem allMembers_any {w : World} :
    Calls Try.prog 18 #[] w (RI w none (mem 63)) := by
  have e := Lib.hid (show ofMaskL 63 = mem 63 from rfl)
  go_enter Try.func18, Try.ntmps18
  go_wp2_with fail
  refine (SetOfMask_any (by omega) (by omega)).mono ?_; rintro e w1 ⟨a, n, c, rfl, ho, hx⟩
  go_wp2_with fail
  go_ret
  exact ⟨_, _, _, rfl, by rw [← e.out]; exact ho, hx⟩
end Go.Proofs.Ytfccceogmhjljaa
