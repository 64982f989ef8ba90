/- The expressions of package spec: members and satisfaction. Conditions: each lemma's own. -/
import Derived.Test.YtnlmcbilhfmenaaS5
namespace Go.Proofs.Ytnlmcbilhfmenaa
open Go.RowKit
set_option linter.unusedVariables false


set_option maxHeartbeats 1000000 in
theorem l1Union_any {a : Option Addr} {n cp : Nat} {xs : List Int} {b : Option Addr} {m cq : Nat} {ys : List Int} {w : World} (hx : Ints w a n xs) (hy : Ints w b m ys) :
    Calls Try.prog 94 #[.slice a n cp, .slice b m cq] w (RI w none (uniB xs ys)) := by
  go_enter Try.func94, Try.ntmps94
  go_wp2_with fail
  go_loopw [5, 6] (fun v i wr => ∃ (k : Nat) (a2 : Option Addr) (n2 c2 : Nat), k ≤ 6 ∧ i = .int .i64 ((k : Int) + 1) ∧ v = .slice a2 n2 c2 ∧ OwnI wr w.heap.size a2 n2 c2 (uniTo xs ys k) ∧ Ext none w wr)
    (fun _ i _ => 7 - (intOf i).toNat)
  case atStart => exact ⟨0, _, 0, 0, by omega, rfl, rfl, OwnI.made w, (Ext.refl _ _).alloc _⟩
  case round =>
    obtain ⟨k, a2, n2, c2, hk, rfl, rfl, ho, he⟩ := hrel
    replace hx := hx.ext he
    replace hy := hy.ext he
    by_cases hlt : k < 6
    · have hs := Lib.hid (uniTo_step xs ys k hlt)
      have hn : n2 ≤ 6 := by have := uniTo_len xs ys k; rw [ho.len] at this; exact this
      go_wp2_with fail
      refine (l1Contains_any hx).mono ?_; rintro e w_ ⟨rfl, rfl⟩
      cases h1 : cont xs ((k : Int) + 1)
      · skip
        go_wp2_with fail
        refine (l1Contains_any hy).mono ?_; rintro e w_ ⟨rfl, rfl⟩
        cases h2 : cont ys ((k : Int) + 1)
        · go_wp2_with fail
          go_roundw
          case rel => exact ⟨k + 1, a2, n2, c2, by omega, by go_num, rfl, by rw [hs.out, h1, h2]; exact ho, he⟩
          case measure => simp [intOf]; omega
        · go_wp2_with (at_builtin; refine app_int _ rfl _ _ rfl w.heap.size a2 n2 c2 _ ho _ rfl rfl (by omega) he.size ?_; intro g c' w1 ho1 hg1)
          go_roundw
          case rel => exact ⟨k + 1, _, _, _, by omega, by go_num, rfl, by rw [hs.out, h1, h2]; exact ho1, he.grown hg1 (fun j hj => .inl (ho.block j hj))⟩
          case measure => simp [intOf]; omega
      · go_wp2_with (at_builtin; refine app_int _ rfl _ _ rfl w.heap.size a2 n2 c2 _ ho _ rfl rfl (by omega) he.size ?_; intro g c' w1 ho1 hg1)
        go_roundw
        case rel => exact ⟨k + 1, _, _, _, by omega, by go_num, rfl, by rw [hs.out, h1]; exact ho1, he.grown hg1 (fun j hj => .inl (ho.block j hj))⟩
        case measure => simp [intOf]; omega
    · obtain rfl : k = 6 := by omega
      go_wp2_with fail
      go_ret
      exact ⟨_, _, _, rfl, ho, he⟩


theorem size_str {s : ByteArray} {t : Fo} (h : byt s = t.str) : s.size = t.str.length := by rw [← byt_len, h]
theorem leaf_byte {s : ByteArray} {m : Nat} (h : byt s = (Fo.leaf m .nil).str) (h1 : 1 ≤ m) (h2 : m ≤ 6) : ∃ h0 : 0 < s.size, ((s[0]'h0).toNat : Int) = (m : Int) + 48 ∧ s.size = 1 := by
  have hs := size_str h
  rw [str_leaf] at h hs
  have h0 : 0 < s.size := by rw [hs]; simp
  refine ⟨h0, ?_, hs⟩
  have := byt_at h0
  rw [h] at this
  have hb : s[0]'h0 = Fo.dg m := by simpa using this.symm
  rw [hb]
  have hm : m = 1 ∨ m = 2 ∨ m = 3 ∨ m = 4 ∨ m = 5 ∨ m = 6 := by omega
  rcases hm with rfl | rfl | rfl | rfl | rfl | rfl <;> rfl
theorem gate_byte {s : ByteArray} {m : Nat} {F : Fo} (h : byt s = (Fo.gate m F .nil).str) (h1 : 1 ≤ m) (h2 : m ≤ 6) : ∃ h0 : 0 < s.size, ((s[0]'h0).toNat : Int) = (m : Int) + 48 ∧ 1 < s.size ∧ F.str.length < s.size := by
  have hs := size_str h
  rw [str_gate] at h hs
  have h0 : 0 < s.size := by rw [hs]; simp
  refine ⟨h0, ?_, by rw [hs]; simp, by rw [hs]; simp; omega⟩
  have := byt_at h0
  rw [h] at this
  have hb : s[0]'h0 = Fo.dg m := by simpa using this.symm
  rw [hb]
  have hm : m = 1 ∨ m = 2 ∨ m = 3 ∨ m = 4 ∨ m = 5 ∨ m = 6 := by omega
  rcases hm with rfl | rfl | rfl | rfl | rfl | rfl <;> rfl
theorem OwnI.lit1 (w : World) (x : Int) : OwnI (w.alloc (.cells #[.int .i64 x] 3)) w.heap.size (some ⟨w.heap.size, 0, none⟩) 1 1 [x] :=
  World.ownsRow_lit w #[.int .i64 x] 1 (Nat.le_refl _) (by simp [maxLen]) rfl


end Go.Proofs.Ytnlmcbilhfmenaa
