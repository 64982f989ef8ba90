/- XPA: several texts in one. Conditions: each lemma's own. -/
import Derived.Test.YtnifgfnhcjhodaaDoorS2
import Derived.Test.YtnifgfnhcjhodaaDoorPO



namespace Go.Proofs.YtnifgfnhcjhodaaDoor
open Go.RowKit
set_option linter.unusedVariables false

/-- the bytes of a string -/
def byt (s : ByteArray) : List UInt8 := s.data.toList
theorem byt_len (s : ByteArray) : (byt s).length = s.size := Array.length_toList
theorem byt_at {s : ByteArray} {k : Nat} (h : k < s.size) : (byt s)[k]? = some (s[k]'h) := by
  unfold byt
  rw [List.getElem?_eq_getElem (by have := byt_len s; unfold byt at this; omega)]
  rfl
theorem byt_out {s : ByteArray} {k : Nat} (h : s.size ≤ k) : (byt s)[k]? = none := by
  rw [List.getElem?_eq_none (by rw [byt_len]; exact h)]
theorem dgv_sub {b : UInt8} (h : isDg b = true) : (b.toNat : Int) - 48 = ((dgv b : Nat) : Int) := by
  simp only [isDg, Bool.and_eq_true, decide_eq_true_eq] at h
  unfold dgv; omega


theorem byt_extract (s : ByteArray) (a b : Nat) : byt (s.extract a b) = ((byt s).drop a).take (b - a) := by
  unfold byt
  rw [ByteArray.data_extract, Array.toList_extract, List.extract_eq_take_drop]

/-- A slice of strings of the call's own. -/
def OwnS (w : World) (B : Nat) (a : Option Addr) (n c : Nat) (ps : List ByteArray) : Prop := Own w B 9 a n c (ps.map Value.string)
theorem OwnS.len {w : World} {B : Nat} {a : Option Addr} {n c : Nat} {ps : List ByteArray} (h : OwnS w B a n c ps) : ps.length = n := by simpa using Own.len h
theorem OwnS.cell {w : World} {B : Nat} {a : Option Addr} {n c : Nat} {ps : List ByteArray} (h : OwnS w B a n c ps) {k : Nat} (hk : k < n) :
    ∃ b off p, a = some ⟨b, off, none⟩ ∧ ps[k]? = some p ∧ w.cell? ⟨b, off + k, none⟩ = some (.string p) := by
  obtain ⟨b, off, ha, hc⟩ := (Own.at_ h).2.2 k hk
  have hl : k < ps.length := by rw [h.len]; exact hk
  exact ⟨b, off, ps[k], ha, List.getElem?_eq_getElem hl, by rw [hc]; simp [hl]⟩
theorem OwnS.ext0 {w w' : World} {B : Nat} {a : Option Addr} {n c : Nat} {ps : List ByteArray} (h : OwnS w B a n c ps) (hx : Ext none w w') : OwnS w' B a n c ps := Own.ext0 h hx
theorem OwnS.mono {w : World} {B B' : Nat} {a : Option Addr} {n c : Nat} {ps : List ByteArray} (h : OwnS w B a n c ps) (hB : B' ≤ B) : OwnS w B' a n c ps := Own.mono h hB
theorem OwnS.made (w : World) : OwnS (w.alloc (.cells #[] 9)) w.heap.size (some ⟨w.heap.size, 0, none⟩) 0 0 [] := World.ownsRow_made w #[] 0 (Nat.le_refl _) (by simp [maxLen]) rfl
theorem strInfo : (Tryd.prog.info? 9).map (fun i => (i.zero, i.size, i.bytes)) = some (some (.string ⟨#[]⟩), 1, 16) := by kernel_rfl
/-- What l2Parts leaves: the texts of the operands. -/
def PartsR (w : World) (F : Fo) (e : Ending) (w' : World) : Prop :=
  ∃ a n c ps, e = .returned (.slice a n c) ∧ OwnS w' w.heap.size a n c ps ∧ ps.map byt = (trees F).map Fo.str ∧ Ext none w w'
theorem parts_at {ps : List ByteArray} {F : Fo} {k : Nat} {p : ByteArray} (h : ps.map byt = (trees F).map Fo.str) (hp : ps[k]? = some p) : ∃ t, (trees F)[k]? = some t ∧ byt p = t.str := by
  have h1 : (ps.map byt)[k]? = some (byt p) := by rw [List.getElem?_map, hp]; rfl
  rw [h, List.getElem?_map] at h1
  cases ht : (trees F)[k]? with
  | none => rw [ht] at h1; simp at h1
  | some t => rw [ht] at h1; simp at h1; exact ⟨t, rfl, h1.symm⟩
theorem parts_len {ps : List ByteArray} {F : Fo} (h : ps.map byt = (trees F).map Fo.str) : ps.length = F.len := by
  have := congrArg List.length h
  simpa [trees_len] using this


set_option maxHeartbeats 1000000 in
theorem l1Union_any {a : Option Addr} {n cp : Nat} {xs : List Int} {b : Option Addr} {m cq : Nat} {ys : List Int} {w : World} (hx : Ints w a n xs) (hy : Ints w b m ys) :
    Calls Tryd.prog 25 #[.slice a n cp, .slice b m cq] w (RI w none (uniB xs ys)) := by
  go_enter Tryd.func25, Tryd.ntmps25
  go_wp2_with fail
  go_loopw [5, 6] (fun v i wr => ∃ (k : Nat) (a2 : Option Addr) (n2 c2 : Nat), k ≤ 6 ∧ i = .int .i64 ((k : Int) + 1) ∧ v = .slice a2 n2 c2 ∧ OwnI wr w.heap.size a2 n2 c2 (uniTo xs ys k) ∧ Ext none w wr)
    (fun _ i _ => 7 - (intOf i).toNat)
  case atStart => exact ⟨0, _, 0, 0, by omega, rfl, rfl, OwnI.made w, (Ext.refl _ _).alloc _⟩
  case round =>
    obtain ⟨k, a2, n2, c2, hk, rfl, rfl, ho, he⟩ := hrel
    replace hx := hx.ext he
    replace hy := hy.ext he
    by_cases hlt : k < 6
    · have hs := Lib.hid (uniTo_step xs ys k hlt)
      have hn : n2 ≤ 6 := by have := uniTo_len xs ys k; rw [ho.len] at this; exact this
      go_wp2_with fail
      refine (l1Contains_any hx).mono ?_; rintro e w_ ⟨rfl, rfl⟩
      cases h1 : cont xs ((k : Int) + 1)
      · skip
        go_wp2_with fail
        refine (l1Contains_any hy).mono ?_; rintro e w_ ⟨rfl, rfl⟩
        cases h2 : cont ys ((k : Int) + 1)
        · go_wp2_with fail
          go_roundw
          case rel => exact ⟨k + 1, a2, n2, c2, by omega, by go_num, rfl, by rw [hs.out, h1, h2]; exact ho, he⟩
          case measure => simp [intOf]; omega
        · go_wp2_with (at_builtin; refine app_int _ rfl _ _ rfl w.heap.size a2 n2 c2 _ ho _ rfl rfl (by omega) he.size ?_; intro g c' w1 ho1 hg1)
          go_roundw
          case rel => exact ⟨k + 1, _, _, _, by omega, by go_num, rfl, by rw [hs.out, h1, h2]; exact ho1, he.grown hg1 (fun j hj => .inl (ho.block j hj))⟩
          case measure => simp [intOf]; omega
      · go_wp2_with (at_builtin; refine app_int _ rfl _ _ rfl w.heap.size a2 n2 c2 _ ho _ rfl rfl (by omega) he.size ?_; intro g c' w1 ho1 hg1)
        go_roundw
        case rel => exact ⟨k + 1, _, _, _, by omega, by go_num, rfl, by rw [hs.out, h1]; exact ho1, he.grown hg1 (fun j hj => .inl (ho.block j hj))⟩
        case measure => simp [intOf]; omega
    · obtain rfl : k = 6 := by omega
      go_wp2_with fail
      go_ret
      exact ⟨_, _, _, rfl, ho, he⟩


theorem size_str {s : ByteArray} {t : Fo} (h : byt s = t.str) : s.size = t.str.length := by rw [← byt_len, h]
theorem leaf_byte {s : ByteArray} {m : Nat} (h : byt s = (Fo.leaf m .nil).str) (h1 : 1 ≤ m) (h2 : m ≤ 6) : ∃ h0 : 0 < s.size, ((s[0]'h0).toNat : Int) = (m : Int) + 48 ∧ s.size = 1 := by
  have hs := size_str h
  rw [str_leaf] at h hs
  have h0 : 0 < s.size := by rw [hs]; simp
  refine ⟨h0, ?_, hs⟩
  have := byt_at h0
  rw [h] at this
  have hb : s[0]'h0 = Fo.dg m := by simpa using this.symm
  rw [hb]
  have hm : m = 1 ∨ m = 2 ∨ m = 3 ∨ m = 4 ∨ m = 5 ∨ m = 6 := by omega
  rcases hm with rfl | rfl | rfl | rfl | rfl | rfl <;> rfl
theorem gate_byte {s : ByteArray} {m : Nat} {F : Fo} (h : byt s = (Fo.gate m F .nil).str) (h1 : 1 ≤ m) (h2 : m ≤ 6) : ∃ h0 : 0 < s.size, ((s[0]'h0).toNat : Int) = (m : Int) + 48 ∧ 1 < s.size ∧ F.str.length < s.size := by
  have hs := size_str h
  rw [str_gate] at h hs
  have h0 : 0 < s.size := by rw [hs]; simp
  refine ⟨h0, ?_, by rw [hs]; simp, by rw [hs]; simp; omega⟩
  have := byt_at h0
  rw [h] at this
  have hb : s[0]'h0 = Fo.dg m := by simpa using this.symm
  rw [hb]
  have hm : m = 1 ∨ m = 2 ∨ m = 3 ∨ m = 4 ∨ m = 5 ∨ m = 6 := by omega
  rcases hm with rfl | rfl | rfl | rfl | rfl | rfl <;> rfl
theorem OwnI.lit1 (w : World) (x : Int) : OwnI (w.alloc (.cells #[.int .i64 x] 3)) w.heap.size (some ⟨w.heap.size, 0, none⟩) 1 1 [x] :=
  World.ownsRow_lit w #[.int .i64 x] 1 (Nat.le_refl _) (by simp [maxLen]) rfl


end Go.Proofs.YtnifgfnhcjhodaaDoor
