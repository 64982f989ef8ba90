/- Drawing expressions. Conditions: each lemma's own. -/
import Derived.Test.YtnifgfnhcjhodaaD2
import Derived.Test.YtnifgfnhcjhodaaPA
import Derived.Deep.RegionWith
import Derived.Laws.BytesArg
namespace Go.Proofs.Ytnifgfnhcjhodaa
open Go.RowKit
set_option linter.unusedVariables false

set_option maxRecDepth 10000 in
set_option maxHeartbeats 400000 in
theorem l6Dec_any {m : Nat} {w : World} (h : m ≤ 9) :
    Calls Try.prog 103 #[.int .i64 m] w fun e w' => ∃ s, e = .returned (.string s) ∧ byt s = [Fo.dg m] ∧ Ext none w w' := by
  have h0 : ¬ (m : Int) < 0 := by omega
  have h1 : (m : Int) < 10 := by omega
  have hcv := run_convert_bytes_arg (P := Try.prog) (w.alloc (.cells #[.int .u8 (48 + (m : Int))] 5)) 22 5 Try.underlying22 Try.underlying5 w.heap.size 0 1 1 [48 + (m : Int)] rfl
    (fun i hi => by
      obtain rfl : i = 0 := by omega
      exact (cell_of_row _ w.heap.size 0 _ _ (0, 0) (heap_alloc_new w (.cells #[.int .u8 (48 + (m : Int))] 5))).trans rfl) 9 Try.underlying9
  go_enter Try.func103, Try.ntmps103
  go_wp2_with fail
  go_ret
  refine ⟨_, rfl, ?_, (Ext.refl _ _).alloc _⟩
  show [UInt8.ofNat (48 + (m : Int)).toNat] = [Fo.dg m]
  rw [show (48 + (m : Int)).toNat = 48 + m from by omega]; rfl

def StrR (w : World) (rb k lo hi : Nat) (e : Ending) (w' : World) : Prop :=
  ∃ s : ByteArray, e = .returned (.string s) ∧ lo ≤ s.size ∧ s.size ≤ hi ∧ Rd w' rb k ∧ Ext (some rb) w w'

set_option maxHeartbeats 400000 in
theorem of_any {rb k B n c lo hi : Nat} {a : Option Addr} {ps : List ByteArray} {w : World} (h : Rd w rb k) (hk : k ≤ 900000) (ho : OwnS w B a n c ps) (hB : rb < B) (hn : 1 ≤ n) (hn2 : n ≤ 100)
    (hp : ∀ p ∈ ps, lo ≤ p.size ∧ p.size ≤ hi) :
    Calls Try.prog 90 #[.pointer (some ⟨rb, 0, none⟩), .slice a n c] w (StrR w rb (k + 1) lo hi) := by
  have HP := Lib.hid hp
  clear hp
  go_enter Try.func90, Try.ntmps90
  go_wp2_with fail
  refine (pick_any h (by omega) (by omega) (by omega)).mono ?_; rintro e w1 ⟨x, rfl, hx0, hx1, hr1, he1⟩
  have ho1 := Own.ext ho he1 (fun j hj => by cases hj; exact hB)
  obtain ⟨i, rfl⟩ := Int.eq_ofNat_of_zero_le hx0
  have hi : i < n := by omega
  obtain ⟨b, off, p, rfl, hp, hc⟩ := OwnS.cell ho1 hi
  have hps := HP.out p (List.mem_of_getElem? hp)
  clear hp ho1
  go_wp2_with fail
  go_ret
  exact ⟨p, rfl, hps.1, hps.2, hr1, he1⟩

theorem OwnS.lit (w : World) (ps : List ByteArray) (n : Nat) (hn : ps.length = n) (hn2 : n ≤ 100) : OwnS (w.alloc (.cells (ps.map Value.string).toArray 9)) w.heap.size (some ⟨w.heap.size, 0, none⟩) n n ps := by
  have := World.ownsRow_lit (e := 9) (size := 1) w (ps.map Value.string).toArray n (Nat.le_refl _) (by simp only [maxLen]; omega) (by simp [hn])
  simpa [OwnS, Own] using this
def bs (l : List UInt8) : ByteArray := ⟨l.toArray⟩

set_option maxHeartbeats 400000 in
theorem l91Leaf_any {rb k : Nat} {w : World} (h : Rd w rb k) (hk : k ≤ 900000) :
    Calls Try.prog 89 #[.pointer (some ⟨rb, 0, none⟩)] w (StrR w rb (k + 1) 1 1) := by
  have hrb := h.lt
  have ho := OwnS.lit w [bs [49], bs [50], bs [51], bs [52], bs [53], bs [54]] 6 rfl (by omega)
  have hx : Ext none w (w.alloc (.cells ([bs [49], bs [50], bs [51], bs [52], bs [53], bs [54]].map Value.string).toArray 9)) := (Ext.refl _ _).alloc _
  have h' := h.ext hx
  have hp : ∀ p ∈ [bs [49], bs [50], bs [51], bs [52], bs [53], bs [54]], 1 ≤ p.size ∧ p.size ≤ 1 := by decide
  have HX := Lib.hid hx
  have HP := Lib.hid hp
  clear hx hp
  go_enter Try.func89, Try.ntmps89
  go_wp2_with fail
  refine (of_any h' hk ho hrb (by omega) (by omega) HP.out).mono ?_; rintro e w1 ⟨s, rfl, h1, h2, hr, he⟩
  go_wp2_with fail
  go_ret
  exact ⟨s, rfl, h1, h2, hr, (HX.out.weak).trans he⟩

theorem cat_size (a b : ByteArray) : (a ++ b).size = a.size + b.size := ByteArray.size_append
set_option maxHeartbeats 1000000 in
theorem l91List_any {rb k B n c hi : Nat} {a : Option Addr} {ps : List ByteArray} {w : World} (h : Rd w rb k) (hk : k ≤ 900000) (ho : OwnS w B a n c ps) (hB : rb < B) (hn : 1 ≤ n) (hn2 : n ≤ 4) (hhi : hi ≤ 100)
    (hp : ∀ p ∈ ps, 1 ≤ p.size ∧ p.size ≤ hi) :
    Calls Try.prog 91 #[.pointer (some ⟨rb, 0, none⟩), .slice a n c] w (StrR w rb (k + 1) 1 (3 + n * (hi + 1))) := by
  have HP := Lib.hid hp
  clear hp
  go_enter Try.func91, Try.ntmps91
  go_wp2_with fail
  refine (pick_any h (by omega) (by omega) (by omega)).mono ?_; rintro e w1 ⟨x, rfl, hx0, hx1, hr1, he1⟩
  obtain ⟨i, rfl⟩ := Int.eq_ofNat_of_zero_le hx0
  go_wp2_with fail
  rw [show (1 : Int) + (i : Int) = ((1 + i : Nat) : Int) from by simp]
  refine (l6Dec_any (by omega)).mono ?_; rintro e w2 ⟨d, rfl, hd, he2⟩
  have hdz : d.size = 1 := by rw [← byt_len, hd]; rfl
  have ho2 := Own.ext (Own.ext ho he1 (fun j hj => by cases hj; exact hB)) he2 (by simp)
  have hr2 := hr1.ext he2
  have he := he1.trans he2.weak
  have hcs : ∀ x : ByteArray, (x ++ (⟨#[40]⟩ : ByteArray)).size = x.size + 1 := fun x => by rw [cat_size]; rfl
  clear hd hr1 he1 he2 ho
  have hdz' : d.size ≤ 1 := by omega
  have hd1 := Lib.hid (show (d ++ (⟨#[40]⟩ : ByteArray)).size = 2 from by rw [hcs]; omega)
  clear hcs hdz
  go_wp2_with fail
  go_loop [5, 6] (fun s i => ∃ (x : ByteArray) (q : Nat), s = .string x ∧ i = .int .i64 q ∧ q ≤ n ∧ Hid (1 ≤ x.size ∧ x.size ≤ 2 + q * (hi + 1))) (fun _ i => n - (intOf i).toNat)
  case atStart => exact ⟨_, 0, rfl, rfl, by omega, by rw [hd1.out]; omega, by rw [hd1.out]; omega⟩
  case round =>
    obtain ⟨x, q, rfl, rfl, hq, hx⟩ := hrel
    have hmul : q * (hi + 1) ≤ 4 * (hi + 1) := Nat.mul_le_mul_right _ (by omega)
    have hxs : x.size ≤ 1000 := by have := hx.out.2; omega
    by_cases hlt : q < n
    · obtain ⟨b, off, p, rfl, hpp, hc⟩ := OwnS.cell ho2 hlt
      have hps := HP.out p (List.mem_of_getElem? hpp)
      have hstep := Lib.hid (show (q + 1) * (hi + 1) = q * (hi + 1) + (hi + 1) from Nat.succ_mul _ _)
      obtain ⟨hps1, hps2⟩ := hps
      clear hpp
      by_cases h0 : 0 < q
      · have hz := Lib.hid (show ((x ++ (⟨#[44]⟩ : ByteArray)) ++ p).size = x.size + 1 + p.size from by rw [cat_size, cat_size]; rfl)
        have hz2 : (x ++ (⟨#[44]⟩ : ByteArray)).size ≤ 1001 := by rw [cat_size]; show x.size + 1 ≤ _; omega
        go_wp2_with fail
        go_round
        case rel => exact ⟨_, q + 1, rfl, by go_num, by omega, by rw [hz.out]; omega, by rw [hz.out, hstep.out]; have := hx.out.2; omega⟩
        case measure => simp [intOf]; omega
      · have hz := Lib.hid (cat_size x p)
        go_wp2_with fail
        go_round
        case rel => exact ⟨_, q + 1, rfl, by go_num, by omega, by rw [hz.out]; have := hx.out.1; omega, by rw [hz.out, hstep.out]; have := hx.out.2; omega⟩
        case measure => simp [intOf]; omega
    · obtain rfl : q = n := by omega
      have hz := Lib.hid (show (x ++ (⟨#[41]⟩ : ByteArray)).size = x.size + 1 from by rw [cat_size]; rfl)
      go_wp2_with fail
      go_ret
      exact ⟨_, rfl, by rw [hz.out]; omega, by rw [hz.out]; have := hx.out.2; omega, hr2, he⟩
end Go.Proofs.Ytnifgfnhcjhodaa
