/- The expressions of package spec: members and satisfaction. Conditions: each lemma's own. -/
import Derived.Test.YtaphbgagpdodkaaS5
namespace Go.Proofs.Ytaphbgagpdodkaa
open Go.RowKit
set_option linter.unusedVariables false


set_option maxHeartbeats 1000000 in
theorem l1Union_any {a : Option Addr} {n cp : Nat} {xs : List Int} {b : Option Addr} {m cq : Nat} {ys : List Int} {w : World} (hx : Ints w a n xs) (hy : Ints w b m ys) :
    Calls Try.prog 48 #[.slice a n cp, .slice b m cq] w (RI w none (uniB xs ys)) := by
  go_enter Try.func48, Try.ntmps48
  go_wp2_with fail
  go_loopw [5, 6] (fun v i wr => ∃ (k : Nat) (a2 : Option Addr) (n2 c2 : Nat), k ≤ 6 ∧ i = .int .i64 ((k : Int) + 1) ∧ v = .slice a2 n2 c2 ∧ OwnI wr w.heap.size a2 n2 c2 (uniTo xs ys k) ∧ Ext none w wr)
    (fun _ i _ => 7 - (intOf i).toNat)
  case atStart => exact ⟨0, _, 0, 0, by omega, rfl, rfl, OwnI.made w, (Ext.refl _ _).alloc _⟩
  case round =>
    obtain ⟨k, a2, n2, c2, hk, rfl, rfl, ho, he⟩ := hrel
    replace hx := hx.ext he
    replace hy := hy.ext he
    by_cases hlt : k < 6
    · have hs := Lib.hid (uniTo_step xs ys k hlt)
      have hn : n2 ≤ 6 := by have := uniTo_len xs ys k; rw [ho.len] at this; exact this
      go_wp2_with fail
      refine (l1Contains_any hx).mono ?_; rintro e w_ ⟨rfl, rfl⟩
      cases h1 : cont xs ((k : Int) + 1)
      · skip
        go_wp2_with fail
        refine (l1Contains_any hy).mono ?_; rintro e w_ ⟨rfl, rfl⟩
        cases h2 : cont ys ((k : Int) + 1)
        · go_wp2_with fail
          go_roundw
          case rel => exact ⟨k + 1, a2, n2, c2, by omega, by go_num, rfl, by rw [hs.out, h1, h2]; exact ho, he⟩
          case measure => simp [intOf]; omega
        · go_wp2_with (at_builtin; refine app_int _ rfl _ _ rfl w.heap.size a2 n2 c2 _ ho _ rfl rfl (by omega) he.size ?_; intro g c' w1 ho1 hg1)
          go_roundw
          case rel => exact ⟨k + 1, _, _, _, by omega, by go_num, rfl, by rw [hs.out, h1, h2]; exact ho1, he.grown hg1 (fun j hj => .inl (ho.block j hj))⟩
          case measure => simp [intOf]; omega
      · go_wp2_with (at_builtin; refine app_int _ rfl _ _ rfl w.heap.size a2 n2 c2 _ ho _ rfl rfl (by omega) he.size ?_; intro g c' w1 ho1 hg1)
        go_roundw
        case rel => exact ⟨k + 1, _, _, _, by omega, by go_num, rfl, by rw [hs.out, h1]; exact ho1, he.grown hg1 (fun j hj => .inl (ho.block j hj))⟩
        case measure => simp [intOf]; omega
    · obtain rfl : k = 6 := by omega
      go_wp2_with fail
      go_ret
      exact ⟨_, _, _, rfl, ho, he⟩


theorem size_str {s : ByteArray} {t : Fo} (h : byt s = t.str) : s.size = t.str.length := by rw [← byt_len, h]
theorem leaf_byte {s : ByteArray} {m : Nat} (h : byt s = (Fo.leaf m .nil).str) (h1 : 1 ≤ m) (h2 : m ≤ 6) : ∃ h0 : 0 < s.size, ((s[0]'h0).toNat : Int) = (m : Int) + 48 ∧ s.size = 1 := by
  have hs := size_str h
  rw [str_leaf] at h hs
  have h0 : 0 < s.size := by rw [hs]; simp
  refine ⟨h0, ?_, hs⟩
  have := byt_at h0
  rw [h] at this
  have hb : s[0]'h0 = Fo.dg m := by simpa using this.symm
  rw [hb]
  have hm : m = 1 ∨ m = 2 ∨ m = 3 ∨ m = 4 ∨ m = 5 ∨ m = 6 := by omega
  rcases hm with rfl | rfl | rfl | rfl | rfl | rfl <;> rfl
theorem gate_byte {s : ByteArray} {m : Nat} {F : Fo} (h : byt s = (Fo.gate m F .nil).str) (h1 : 1 ≤ m) (h2 : m ≤ 6) : ∃ h0 : 0 < s.size, ((s[0]'h0).toNat : Int) = (m : Int) + 48 ∧ 1 < s.size ∧ F.str.length < s.size := by
  have hs := size_str h
  rw [str_gate] at h hs
  have h0 : 0 < s.size := by rw [hs]; simp
  refine ⟨h0, ?_, by rw [hs]; simp, by rw [hs]; simp; omega⟩
  have := byt_at h0
  rw [h] at this
  have hb : s[0]'h0 = Fo.dg m := by simpa using this.symm
  rw [hb]
  have hm : m = 1 ∨ m = 2 ∨ m = 3 ∨ m = 4 ∨ m = 5 ∨ m = 6 := by omega
  rcases hm with rfl | rfl | rfl | rfl | rfl | rfl <;> rfl
theorem OwnI.lit1 (w : World) (x : Int) : OwnI (w.alloc (.cells #[.int .i64 x] 3)) w.heap.size (some ⟨w.heap.size, 0, none⟩) 1 1 [x] :=
  World.ownsRow_lit w #[.int .i64 x] 1 (Nat.le_refl _) (by simp [maxLen]) rfl


set_option maxHeartbeats 2000000 in
theorem l2Members_ind (z : Nat) : ∀ (s : ByteArray) (t : Fo) (w : World), s.size ≤ z → z ≤ 1000000 → byt s = t.str → t.wf = true → t.len = 1 →
    Calls Try.prog 30 #[.string s] w (RI w none (mem t.occ)) := by
  induction z with
  | zero =>
    intro s t w hz _ hb _ hl
    have h0 : t ≠ .nil := Fo.ne_nil (by omega)
    have := str_pos h0
    rw [← size_str hb] at this
    omega
  | succ z ih =>
    intro s t w hz hz2 hb hw hl
    have IH := Lib.hid ih
    clear ih
    rcases one_tree hw hl with ⟨m, rfl, h1, h6⟩ | ⟨k, F, rfl, h1, hk, h6, hwF⟩
    · obtain ⟨h0, hbyte, hsz⟩ := leaf_byte hb h1 h6
      have hfin := Lib.hid (show mem (Fo.leaf m .nil).occ = [(m : Int)] from by rw [occ_leaf]; exact mem_bit h1 h6)
      have HB := Lib.hid hbyte
      have hsub : ((s[0]'h0).toNat : Int) - 48 = (m : Int) := by rw [hbyte]; omega
      have hszb : ((s.size : Int) == 1) = true := by rw [hsz]; rfl
      have hlo : (49 : Int) ≤ ((s[0]'h0).toNat : Int) := by omega
      have hhi : ((s[0]'h0).toNat : Int) ≤ 54 := by omega
      clear hbyte hsz hb
      go_enter Try.func30, Try.ntmps30
      go_wp2_with fail
      go_ret
      exact ⟨_, _, _, rfl, by rw [hfin.out]; exact OwnI.lit1 w _, (Ext.refl _ _).alloc _⟩
    · obtain ⟨h0, _, hsz, hFs⟩ := gate_byte hb h1 (by omega)
      have hszb : ((s.size : Int) == 1) = false := by rw [beq_eq_false_iff_ne]; omega
      have hF := Lib.hid (show F ≠ .nil from Fo.ne_nil (by omega))
      have HFW := Lib.hid hwF
      have HB := Lib.hid hb
      have hocc := Lib.hid (occ_gate k F)
      clear hb hw hl hwF
      go_enter Try.func30, Try.ntmps30
      go_wp2_with fail
      refine (l2Parts_any (by omega) HB.out HFW.out hF.out h6).mono ?_; rintro e w1 ⟨a1, n1, c1, ps, rfl, hop, hps, he1⟩
      have hn1 := Lib.hid ((parts_len hps).symm.trans hop.len)
      have hn6 : n1 ≤ 6 := by have := hn1.out; omega
      have HPS := Lib.hid hps
      clear hps
      go_wp2_with fail
      go_loopw [3, 5] (fun v i wr => ∃ (q : Nat) (a2 : Option Addr) (n2 c2 : Nat), q ≤ n1 ∧ i = .int .i64 q ∧ v = .slice a2 n2 c2 ∧ OwnI wr w.heap.size a2 n2 c2 (mem (takeF q F).occ) ∧ Ext none w wr ∧ OwnS wr (w.alloc (.cells #[] 3)).heap.size a1 n1 c1 ps)
        (fun _ i _ => n1 - (intOf i).toNat)
      case atStart => exact ⟨0, _, 0, 0, by omega, rfl, rfl, by rw [takeF_mem0]; exact (OwnI.made w).ext0 he1, ((Ext.refl _ _).alloc _).trans he1, hop⟩
      case round =>
        obtain ⟨q, a2, n2, c2, hq, rfl, rfl, ho, he, hop'⟩ := hrel
        by_cases hlt : q < n1
        · obtain ⟨b, off, p, rfl, hp, hc⟩ := hop'.cell hlt
          obtain ⟨u, hu, hpu⟩ := parts_at HPS.out hp
          have hum := List.mem_of_getElem? hu
          have huw := trees_wf HFW.out u hum
          have hple : p.size ≤ z := by
            have := str_le F u hum
            rw [size_str hpu]; omega
          have hst := Lib.hid (occ_step q F u hu)
          have hlt1 := Lib.hid (Fo.occ_lt _ (takeF_wf q F HFW.out))
          have hlt2 := Lib.hid (Fo.occ_lt u huw.1)
          have HU := Lib.hid huw
          have HP := Lib.hid hpu
          clear hu hum huw hpu hp
          go_wp2_with fail
          refine (IH.out p u _ hple (by omega) HP.out HU.out.1 HU.out.2).mono ?_; rintro e w3 ⟨a3, n3, c3, rfl, ho3, he3⟩
          have i2 := (ho.ext0 he3).ints
          have i3 := ho3.ints
          have hop3 := hop'.ext0 he3
          have heT := he.trans he3
          go_wp2_with fail
          refine (l1Union_any i2 i3).mono ?_; rintro e w4 ⟨a4, n4, c4, rfl, ho4, he4⟩
          have hfin := Lib.hid (show uniB (mem (takeF q F).occ) (mem u.occ) = mem (takeF (q + 1) F).occ from by
            rw [uniB_valid (mem_valid hlt1.out) (mem_valid hlt2.out), mask_mem hlt1.out, mask_mem hlt2.out, hst.out])
          go_wp2_with fail
          go_roundw
          case rel => exact ⟨q + 1, _, _, _, by omega, by go_num, rfl, by rw [← hfin.out]; exact ho4.mono heT.size, heT.trans he4, hop3.ext0 he4⟩
          case measure => simp [intOf]; omega
        · obtain rfl : q = n1 := by omega
          have hfin := Lib.hid (show mem (takeF q F).occ = mem (Fo.gate k F .nil).occ from by rw [hocc.out, ← hn1.out, takeF_all])
          go_wp2_with fail
          go_ret
          exact ⟨_, _, _, rfl, by rw [← hfin.out]; exact ho, he⟩



set_option maxHeartbeats 400000 in
theorem sExprMembers_any {s : ByteArray} {w : World} (hs : s.size ≤ 9223372036854775807) :
    Calls Try.prog 11 #[.string s] w (RI w none (membersE (byt s))) := by
  cases ho : okE (byt s)
  · have hfin := Lib.hid (show membersE (byt s) = [] from by unfold membersE; rw [ho]; rfl)
    go_enter Try.func11, Try.ntmps11
    go_wp2_with fail
    refine (sExprValid_any hs).mono ?_; rintro e w_ ⟨rfl, rfl⟩
    go_wp2_with fail
    go_ret
    exact ⟨_, _, _, rfl, by rw [hfin.out]; exact OwnI.made w, (Ext.refl _ _).alloc _⟩
  · obtain ⟨t, ht⟩ : ∃ t, ex (byt s) = some t := Option.isSome_iff_exists.1 ho
    obtain ⟨h1, h2, h3, h4, _⟩ := ex_some ht
    have hfin := Lib.hid (show membersE (byt s) = mem t.occ from by unfold membersE occE; rw [ho, ht]; rfl)
    have H1 := Lib.hid h1
    have H2 := Lib.hid h2
    have H3 := Lib.hid h3
    rw [byt_len] at h4
    clear h1 h2 h3 ht
    go_enter Try.func11, Try.ntmps11
    go_wp2_with fail
    refine (sExprValid_any hs).mono ?_; rintro e w_ ⟨rfl, rfl⟩
    go_wp2_with fail
    refine (l2Members_ind s.size s t _ (Nat.le_refl _) (by omega) H1.out H2.out H3.out).mono ?_; rintro e w1 ⟨a1, n1, c1, rfl, ho1, he1⟩
    go_wp2_with fail
    go_ret
    exact ⟨_, _, _, rfl, by rw [hfin.out]; exact ho1, he1⟩

end Go.Proofs.Ytaphbgagpdodkaa
