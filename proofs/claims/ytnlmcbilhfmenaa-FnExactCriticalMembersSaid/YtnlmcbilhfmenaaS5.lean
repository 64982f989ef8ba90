/- The expressions of package spec: operands, members, satisfaction. Conditions: each lemma's own. -/
import Derived.Test.YtnlmcbilhfmenaaS4
namespace Go.Proofs.Ytnlmcbilhfmenaa
open Go.RowKit
set_option linter.unusedVariables false

theorem byt_extract (s : ByteArray) (a b : Nat) : byt (s.extract a b) = ((byt s).drop a).take (b - a) := by
  unfold byt
  rw [ByteArray.data_extract, Array.toList_extract, List.extract_eq_take_drop]

/-- A slice of strings of the call's own. -/
def OwnS (w : World) (B : Nat) (a : Option Addr) (n c : Nat) (ps : List ByteArray) : Prop := Own w B 9 a n c (ps.map Value.string)
theorem OwnS.len {w : World} {B : Nat} {a : Option Addr} {n c : Nat} {ps : List ByteArray} (h : OwnS w B a n c ps) : ps.length = n := by simpa using Own.len h
theorem OwnS.cell {w : World} {B : Nat} {a : Option Addr} {n c : Nat} {ps : List ByteArray} (h : OwnS w B a n c ps) {k : Nat} (hk : k < n) :
    ∃ b off p, a = some ⟨b, off, none⟩ ∧ ps[k]? = some p ∧ w.cell? ⟨b, off + k, none⟩ = some (.string p) := by
  obtain ⟨b, off, ha, hc⟩ := (Own.at_ h).2.2 k hk
  have hl : k < ps.length := by rw [h.len]; exact hk
  exact ⟨b, off, ps[k], ha, List.getElem?_eq_getElem hl, by rw [hc]; simp [hl]⟩
theorem OwnS.ext0 {w w' : World} {B : Nat} {a : Option Addr} {n c : Nat} {ps : List ByteArray} (h : OwnS w B a n c ps) (hx : Ext none w w') : OwnS w' B a n c ps := Own.ext0 h hx
theorem OwnS.mono {w : World} {B B' : Nat} {a : Option Addr} {n c : Nat} {ps : List ByteArray} (h : OwnS w B a n c ps) (hB : B' ≤ B) : OwnS w B' a n c ps := Own.mono h hB
theorem OwnS.made (w : World) : OwnS (w.alloc (.cells #[] 9)) w.heap.size (some ⟨w.heap.size, 0, none⟩) 0 0 [] := World.ownsRow_made w #[] 0 (Nat.le_refl _) (by simp [maxLen]) rfl
theorem strInfo : (Try.prog.info? 9).map (fun i => (i.zero, i.size, i.bytes)) = some (some (.string ⟨#[]⟩), 1, 16) := by kernel_rfl
theorem app_str (w : World) {ops : Array Oper} {rest : List Oper} {o : Oper} {a : Act} {Q : Exit → Act → World → Prop} (hgd : o.guard = none) (s x : Operand)
    (ho : o.op = .call { callee := .builtin .append, args := #[s, x], argTypes := #[89, 89] })
    (B : Nat) (ad : Option Addr) (n c : Nat) (ps : List ByteArray) (hown : OwnS w B ad n c ps) (y : ByteArray) (hs : a.eval s = .slice ad n c)
    (hx : a.eval x = .slice (some ⟨w.heap.size, 0, none⟩) 1 1) (hlen : n + 1 ≤ 1000000) (hB : B ≤ w.heap.size)
    (h : ∀ g c' w', OwnS w' B (some ⟨g, 0, none⟩) (n + 1) c' (ps ++ [y]) → w.grownBy w' (Value.slice ad n c).ownBlock → wpList Try.prog ops Q rest (a.put o.dst (.slice (some ⟨g, 0, none⟩) (n + 1) c')) w') :
    wpList Try.prog ops Q (o :: rest) a (w.alloc (.cells #[.string y] 9)) := by
  obtain ⟨i0, hi, hz0, hz1, hz2⟩ := info_parts strInfo
  refine append1 w hgd s x 89 ho B 9 i0 (.string ⟨#[]⟩) 16 Try.underlying89 hi hz0 hz1 hz2 rfl ad n c _ hs hown (.string y) hx rfl hlen (by decide) hB ?_
  intro g c' w' h1 h2
  exact h g c' w' (by simpa [OwnS, List.map_append] using h1) h2

/-- What l2Parts leaves: the texts of the operands. -/
def PartsR (w : World) (F : Fo) (e : Ending) (w' : World) : Prop :=
  ∃ a n c ps, e = .returned (.slice a n c) ∧ OwnS w' w.heap.size a n c ps ∧ ps.map byt = (trees F).map Fo.str ∧ Ext none w w'
theorem parts_at {ps : List ByteArray} {F : Fo} {k : Nat} {p : ByteArray} (h : ps.map byt = (trees F).map Fo.str) (hp : ps[k]? = some p) : ∃ t, (trees F)[k]? = some t ∧ byt p = t.str := by
  have h1 : (ps.map byt)[k]? = some (byt p) := by rw [List.getElem?_map, hp]; rfl
  rw [h, List.getElem?_map] at h1
  cases ht : (trees F)[k]? with
  | none => rw [ht] at h1; simp at h1
  | some t => rw [ht] at h1; simp at h1; exact ⟨t, rfl, h1.symm⟩
theorem parts_len {ps : List ByteArray} {F : Fo} (h : ps.map byt = (trees F).map Fo.str) : ps.length = F.len := by
  have := congrArg List.length h
  simpa [trees_len] using this


set_option maxHeartbeats 2000000 in
theorem l2Parts_any {s : ByteArray} {k : Nat} {F : Fo} {w : World} (hs : s.size ≤ 1000000) (hb : byt s = (Fo.gate k F .nil).str) (hw : F.wf = true) (hF : F ≠ .nil) (hF6 : F.len ≤ 6) :
    Calls Try.prog 107 #[.string s] w (PartsR w F) := by
  have hsz : 2 < s.size := by
    rw [← byt_len, hb, str_gate]; simp
  have h1 : (byt s)[1]? = some 40 := by rw [hb, str_gate]; rfl
  have hne : ((s.size : Int) == 1) = false := by rw [beq_eq_false_iff_ne]; omega
  have HB := Lib.hid hb
  have HW := Lib.hid hw
  have HF := Lib.hid hF
  have H1 := Lib.hid h1
  clear hb hw hF h1
  go_enter Try.func107, Try.ntmps107
  go_wp2_with fail
  go_loopw [3, 4] (fun v i wr => ∃ (j n c : Nat) (a : Option Addr) (ps : List ByteArray) (R : Fo), i = .int .i64 j ∧ v = .slice a n c ∧ j < s.size ∧ OwnS wr w.heap.size a n c ps ∧ n ≤ 6 ∧
      Hid (n + R.len ≤ 6 ∧ R.wf = true ∧ ps.map byt ++ (trees R).map Fo.str = (trees F).map Fo.str ∧ (R = .nil → (byt s)[j]? = some 41) ∧ (R ≠ .nil → (byt s)[j]? ≠ some 41 ∧ (byt s).drop (j + 1) = R.str ++ [41])) ∧ Ext none w wr)
    (fun _ i _ => s.size - (intOf i).toNat)
  case atStart =>
    exact ⟨1, 0, 0, _, [], F, rfl, rfl, by omega, OwnS.made w, by omega, ⟨by omega, HW.out, rfl, fun h => absurd h HF.out, fun _ => ⟨by rw [H1.out]; decide, by rw [HB.out, str_gate]; rfl⟩⟩, (Ext.refl _ _).alloc _⟩
  case round =>
    obtain ⟨j, n, c, a, ps, R, rfl, rfl, hj, ho, hn6, HR, he⟩ := hrel
    have hat := Lib.hid (byt_at hj)
    by_cases hR : R = .nil
    · have h41 : s[j]'hj = 41 := by
        have := HR.out.2.2.2.1 hR
        rw [hat.out] at this; simpa using this
      have hb41 : (((s[j]'hj).toNat : Int) != 41) = false := by rw [h41]; rfl
      clear h41
      have hfin := Lib.hid (show ps.map byt = (trees F).map Fo.str from by have := HR.out.2.2.1; rw [hR] at this; simpa [trees] using this)
      clear hR
      go_wp2_with fail
      go_ret
      exact ⟨_, _, _, ps, rfl, ho, hfin.out, he⟩
    · have hRR := HR.out.2.2.2.2 hR
      have h41 : s[j]'hj ≠ 41 := by
        intro h; exact hRR.1 (by rw [hat.out, h])
      have hb41 : (((s[j]'hj).toNat : Int) != 41) = true := by
        rw [bne_iff_ne]; intro h; exact h41 (UInt8.toNat_inj.1 (by simpa using (by omega : (s[j]'hj).toNat = 41)))
      obtain ⟨i, hi1, hi2, hi3, hi4, hi5⟩ := end_hd hR HR.out.2.1 hRR.2
      rw [byt_len] at hi3
      have hp := Lib.hid (show byt (s.extract (j + 1) i) = (hdF R).str from by rw [byt_extract]; exact hi5)
      have hlen := Lib.hid (tl_len hR)
      have hn5 : n ≤ 5 := by have := HR.out.1; have := hlen.out; omega
      have hnew := Lib.hid (show (n + 1) + (tlF R).len ≤ 6 ∧ (tlF R).wf = true ∧ (ps ++ [s.extract (j + 1) i]).map byt ++ (trees (tlF R)).map Fo.str = (trees F).map Fo.str ∧ (tlF R = .nil → (byt s)[i]? = some 41) ∧ (tlF R ≠ .nil → (byt s)[i]? ≠ some 41 ∧ (byt s).drop (i + 1) = (tlF R).str ++ [41]) from by
        refine ⟨by have := HR.out.1; have := hlen.out; omega, (hd_wf HR.out.2.1).2, ?_, ?_, ?_⟩
        · rw [← HR.out.2.2.1, trees_cons hR, List.map_append, List.map_cons, List.map_cons, List.map_nil, hp.out, List.append_assoc]; rfl
        · intro h0
          rw [h0] at hi4
          have : (byt s)[i]? = ((byt s).drop i).head? := by rw [List.head?_drop]
          rw [this, hi4]; rfl
        · intro h0
          rw [Fo.sep_str h0] at hi4
          have : (byt s)[i]? = ((byt s).drop i).head? := by rw [List.head?_drop]
          refine ⟨by rw [this, hi4]; simp, ?_⟩
          rw [show i + 1 = i + 1 from rfl, ← List.tail_drop, hi4]; rfl)
      have HE := Lib.hid hi1
      clear hi1 hi4 hi5 hRR h41 hR
      go_wp2_with fail
      rw [show (j : Int) + 1 = ((j + 1 : Nat) : Int) from by simp]
      refine (l2End_any hs (by omega)).mono ?_; rintro e w' ⟨rfl, rfl⟩
      rw [HE.out]
      have hs2 := he.size
      go_wp2_with (at_builtin; refine app_str _ rfl _ _ rfl w.heap.size a n c ps ho (s.extract (j + 1) i) rfl rfl (by omega) hs2 ?_; intro g c' w1 ho1 hg1)
      go_roundw
      case rel => exact ⟨i, n + 1, c', _, _, tlF R, rfl, rfl, hi3, ho1, by omega, hnew.out, he.grown hg1 (fun q hq => .inl (Own.block ho q hq))⟩
      case measure => simp [intOf]; omega

end Go.Proofs.Ytnlmcbilhfmenaa
