/- XPA: several texts in one. Conditions: each lemma's own. -/
import Derived.Test.YtjjjpakgnipghaaDoorS2
import Derived.Test.YtjjjpakgnipghaaDoorPO



namespace Go.Proofs.YtjjjpakgnipghaaDoor
open Go.RowKit
set_option linter.unusedVariables false

/-- the bytes of a string -/
def byt (s : ByteArray) : List UInt8 := s.data.toList
theorem byt_len (s : ByteArray) : (byt s).length = s.size := Array.length_toList
theorem byt_at {s : ByteArray} {k : Nat} (h : k < s.size) : (byt s)[k]? = some (s[k]'h) := by
  unfold byt
  rw [List.getElem?_eq_getElem (by have := byt_len s; unfold byt at this; omega)]
  rfl
theorem byt_out {s : ByteArray} {k : Nat} (h : s.size ≤ k) : (byt s)[k]? = none := by
  rw [List.getElem?_eq_none (by rw [byt_len]; exact h)]
theorem dgv_sub {b : UInt8} (h : isDg b = true) : (b.toNat : Int) - 48 = ((dgv b : Nat) : Int) := by
  simp only [isDg, Bool.and_eq_true, decide_eq_true_eq] at h
  unfold dgv; omega


theorem byt_extract (s : ByteArray) (a b : Nat) : byt (s.extract a b) = ((byt s).drop a).take (b - a) := by
  unfold byt
  rw [ByteArray.data_extract, Array.toList_extract, List.extract_eq_take_drop]

/-- A slice of strings of the call's own. -/
def OwnS (w : World) (B : Nat) (a : Option Addr) (n c : Nat) (ps : List ByteArray) : Prop := Own w B 9 a n c (ps.map Value.string)
theorem OwnS.len {w : World} {B : Nat} {a : Option Addr} {n c : Nat} {ps : List ByteArray} (h : OwnS w B a n c ps) : ps.length = n := by simpa using Own.len h
theorem OwnS.cell {w : World} {B : Nat} {a : Option Addr} {n c : Nat} {ps : List ByteArray} (h : OwnS w B a n c ps) {k : Nat} (hk : k < n) :
    ∃ b off p, a = some ⟨b, off, none⟩ ∧ ps[k]? = some p ∧ w.cell? ⟨b, off + k, none⟩ = some (.string p) := by
  obtain ⟨b, off, ha, hc⟩ := (Own.at_ h).2.2 k hk
  have hl : k < ps.length := by rw [h.len]; exact hk
  exact ⟨b, off, ps[k], ha, List.getElem?_eq_getElem hl, by rw [hc]; simp [hl]⟩
theorem OwnS.ext0 {w w' : World} {B : Nat} {a : Option Addr} {n c : Nat} {ps : List ByteArray} (h : OwnS w B a n c ps) (hx : Ext none w w') : OwnS w' B a n c ps := Own.ext0 h hx
theorem OwnS.mono {w : World} {B B' : Nat} {a : Option Addr} {n c : Nat} {ps : List ByteArray} (h : OwnS w B a n c ps) (hB : B' ≤ B) : OwnS w B' a n c ps := Own.mono h hB
theorem OwnS.made (w : World) : OwnS (w.alloc (.cells #[] 9)) w.heap.size (some ⟨w.heap.size, 0, none⟩) 0 0 [] := World.ownsRow_made w #[] 0 (Nat.le_refl _) (by simp [maxLen]) rfl
theorem strInfo : (Tryd.prog.info? 9).map (fun i => (i.zero, i.size, i.bytes)) = some (some (.string ⟨#[]⟩), 1, 16) := by kernel_rfl
theorem app_str (w : World) {ops : Array Oper} {rest : List Oper} {o : Oper} {a : Act} {Q : Exit → Act → World → Prop} (hgd : o.guard = none) (s x : Operand)
    (ho : o.op = .call { callee := .builtin .append, args := #[s, x], argTypes := #[85, 85] })
    (B : Nat) (ad : Option Addr) (n c : Nat) (ps : List ByteArray) (hown : OwnS w B ad n c ps) (y : ByteArray) (hs : a.eval s = .slice ad n c)
    (hx : a.eval x = .slice (some ⟨w.heap.size, 0, none⟩) 1 1) (hlen : n + 1 ≤ 1000000) (hB : B ≤ w.heap.size)
    (h : ∀ g c' w', OwnS w' B (some ⟨g, 0, none⟩) (n + 1) c' (ps ++ [y]) → w.grownBy w' (Value.slice ad n c).ownBlock → wpList Tryd.prog ops Q rest (a.put o.dst (.slice (some ⟨g, 0, none⟩) (n + 1) c')) w') :
    wpList Tryd.prog ops Q (o :: rest) a (w.alloc (.cells #[.string y] 9)) := by
  obtain ⟨i0, hi, hz0, hz1, hz2⟩ := info_parts strInfo
  refine append1 w hgd s x 85 ho B 9 i0 (.string ⟨#[]⟩) 16 Tryd.underlying85 hi hz0 hz1 hz2 rfl ad n c _ hs hown (.string y) hx rfl hlen (by decide) hB ?_
  intro g c' w' h1 h2
  exact h g c' w' (by simpa [OwnS, List.map_append] using h1) h2

/-- What l2Parts leaves: the texts of the operands. -/
def PartsR (w : World) (F : Fo) (e : Ending) (w' : World) : Prop :=
  ∃ a n c ps, e = .returned (.slice a n c) ∧ OwnS w' w.heap.size a n c ps ∧ ps.map byt = (trees F).map Fo.str ∧ Ext none w w'
theorem parts_at {ps : List ByteArray} {F : Fo} {k : Nat} {p : ByteArray} (h : ps.map byt = (trees F).map Fo.str) (hp : ps[k]? = some p) : ∃ t, (trees F)[k]? = some t ∧ byt p = t.str := by
  have h1 : (ps.map byt)[k]? = some (byt p) := by rw [List.getElem?_map, hp]; rfl
  rw [h, List.getElem?_map] at h1
  cases ht : (trees F)[k]? with
  | none => rw [ht] at h1; simp at h1
  | some t => rw [ht] at h1; simp at h1; exact ⟨t, rfl, h1.symm⟩
theorem parts_len {ps : List ByteArray} {F : Fo} (h : ps.map byt = (trees F).map Fo.str) : ps.length = F.len := by
  have := congrArg List.length h
  simpa [trees_len] using this


theorem size_str {s : ByteArray} {t : Fo} (h : byt s = t.str) : s.size = t.str.length := by rw [← byt_len, h]
theorem leaf_byte {s : ByteArray} {m : Nat} (h : byt s = (Fo.leaf m .nil).str) (h1 : 1 ≤ m) (h2 : m ≤ 6) : ∃ h0 : 0 < s.size, ((s[0]'h0).toNat : Int) = (m : Int) + 48 ∧ s.size = 1 := by
  have hs := size_str h
  rw [str_leaf] at h hs
  have h0 : 0 < s.size := by rw [hs]; simp
  refine ⟨h0, ?_, hs⟩
  have := byt_at h0
  rw [h] at this
  have hb : s[0]'h0 = Fo.dg m := by simpa using this.symm
  rw [hb]
  have hm : m = 1 ∨ m = 2 ∨ m = 3 ∨ m = 4 ∨ m = 5 ∨ m = 6 := by omega
  rcases hm with rfl | rfl | rfl | rfl | rfl | rfl <;> rfl
theorem gate_byte {s : ByteArray} {m : Nat} {F : Fo} (h : byt s = (Fo.gate m F .nil).str) (h1 : 1 ≤ m) (h2 : m ≤ 6) : ∃ h0 : 0 < s.size, ((s[0]'h0).toNat : Int) = (m : Int) + 48 ∧ 1 < s.size ∧ F.str.length < s.size := by
  have hs := size_str h
  rw [str_gate] at h hs
  have h0 : 0 < s.size := by rw [hs]; simp
  refine ⟨h0, ?_, by rw [hs]; simp, by rw [hs]; simp; omega⟩
  have := byt_at h0
  rw [h] at this
  have hb : s[0]'h0 = Fo.dg m := by simpa using this.symm
  rw [hb]
  have hm : m = 1 ∨ m = 2 ∨ m = 3 ∨ m = 4 ∨ m = 5 ∨ m = 6 := by omega
  rcases hm with rfl | rfl | rfl | rfl | rfl | rfl <;> rfl
theorem OwnI.lit1 (w : World) (x : Int) : OwnI (w.alloc (.cells #[.int .i64 x] 3)) w.heap.size (some ⟨w.heap.size, 0, none⟩) 1 1 [x] :=
  World.ownsRow_lit w #[.int .i64 x] 1 (Nat.le_refl _) (by simp [maxLen]) rfl


end Go.Proofs.YtjjjpakgnipghaaDoor
