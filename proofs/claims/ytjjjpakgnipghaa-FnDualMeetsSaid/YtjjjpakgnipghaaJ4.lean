/- The expressions of package spec: the dual. Conditions: each lemma's own. -/
import Derived.Test.YtjjjpakgnipghaaJ1
import Derived.Test.YtjjjpakgnipghaaPA
namespace Go.Proofs.Ytjjjpakgnipghaa
open Go.RowKit
set_option linter.unusedVariables false

theorem du_step (q : Nat) (F t : Fo) (h : (trees F)[q]? = some t) (hl : t.len = 1) (hq : q ≤ F.len) : (takeF (q + 1) F).du.str = if q = 0 then t.du.str else (takeF q F).du.str ++ 44 :: t.du.str := by
  rw [takeF_step q F t h, Fo.app_du]
  split
  · rename_i h0; subst h0; rw [takeF_zero]; rfl
  · rename_i h0
    exact Fo.str_app (Fo.ne_nil (by rw [Fo.du_len, takeF_len2 q F hq]; omega)) (Fo.ne_nil (by rw [Fo.du_len, hl]; exact Nat.one_pos))
set_option maxRecDepth 20000 in
set_option maxHeartbeats 2000000 in
theorem l2Dual_ind (z : Nat) : ∀ (s : ByteArray) (t : Fo) (w : World), s.size ≤ z → z ≤ 100000 → byt s = t.str → t.wf = true → t.len = 1 →
    Calls Try.prog 83 #[.string s] w fun e w' => e = .returned (.string (bs t.du.str)) ∧ Ext none w w' := by
  induction z with
  | zero =>
    intro s t w hz _ hb _ hl
    have h0 : t ≠ .nil := Fo.ne_nil (by omega)
    have := str_pos h0
    rw [← size_str hb] at this
    omega
  | succ z ih =>
    intro s t w hz hz2 hb hw hl
    have IH := Lib.hid ih
    clear ih
    rcases one_tree hw hl with ⟨m, rfl, h1, h6⟩ | ⟨k, F, rfl, h1, hk, h6, hwF⟩
    · obtain ⟨h0, hbyte, hsz⟩ := leaf_byte hb h1 h6
      have hszb : ((s.size : Int) == 1) = true := by rw [hsz]; rfl
      have HB := Lib.hid (show s = bs (Fo.leaf m .nil).du.str from byt_inj (by rw [byt_bs]; exact hb))
      clear hbyte hsz hb
      go_enter Try.func83, Try.ntmps83
      go_wp2_with fail
      go_ret
      exact ⟨congrArg (fun x => Ending.returned (.string x)) HB.out, Ext.refl _ _⟩
    · obtain ⟨h0, hbyte, hsz, hFs⟩ := gate_byte hb h1 (by omega)
      have HBY := Lib.hid hbyte
      have hsub : ((s[0]'h0).toNat : Int) - 48 = (k : Int) := by rw [hbyte]; omega
      have hlo : (49 : Int) ≤ ((s[0]'h0).toNat : Int) := by omega
      have hhi : ((s[0]'h0).toNat : Int) ≤ 54 := by omega
      clear hbyte
      have hszb : ((s.size : Int) == 1) = false := by rw [beq_eq_false_iff_ne]; omega
      have hF := Lib.hid (show F ≠ .nil from Fo.ne_nil (by omega))
      have HFW := Lib.hid hwF
      have HB := Lib.hid hb
      clear hb hw hl hwF
      go_enter Try.func83, Try.ntmps83
      go_wp2_with fail
      refine (l2Parts_any (by omega) HB.out HFW.out hF.out h6).mono ?_; rintro e w1 ⟨a1, n1, c1, ps, rfl, hop, hps, he1⟩
      have hn1 := Lib.hid ((parts_len hps).symm.trans hop.len)
      have hn6 : n1 ≤ 6 := by have := hn1.out; omega
      have hkn : k ≤ n1 := by have := hn1.out; omega
      have HPS := Lib.hid hps
      have HOP := Lib.hid hop
      have HE1 := Lib.hid he1
      clear hps hop he1
      go_wp2_with fail
      obtain ⟨d, hd⟩ : ∃ d : Nat, d = n1 - k + 1 := ⟨_, rfl⟩
      rw [show (n1 : Int) - (k : Int) + 1 = (d : Int) from by omega]
      have hd9 : d ≤ 9 := by omega
      have hgd := Lib.hid (show (Fo.gate k F .nil).du = .gate d F.du .nil from by rw [hd, ← hn1.out]; simp [Fo.du])
      clear hd
      refine (l6Dec_any hd9).mono ?_; rintro e w2 ⟨S0, rfl, hS0, e2⟩
      have hS0b := Lib.hid (show S0 = bs [Fo.dg d] from byt_inj (by rw [byt_bs]; exact hS0))
      have z1 : ¬9223372036854775807 < S0.size + 1 := by rw [hS0b.out, bs_size]; simp
      have HE2 := Lib.hid (HE1.out.trans e2)
      have HOP2 := Lib.hid (HOP.out.ext0 e2)
      clear hS0 e2 HE1 HOP
      go_wp2_with fail
      go_loopw [4, 5] (fun v i wr => ∃ (q : Nat) (S : ByteArray), q ≤ n1 ∧ i = .int .i64 q ∧ v = .string S ∧ S.size ≤ 2 + q * 100001 ∧ Hid (byt S = Fo.dg d :: 40 :: (takeF q F).du.str) ∧ Ext none w wr ∧ OwnS wr w.heap.size a1 n1 c1 ps)
        (fun _ i _ => n1 - (intOf i).toNat)
      case atStart => exact ⟨0, _, by omega, rfl, rfl, by rw [hS0b.out, cat_size, bs_size]; simp [ByteArray.size], by unfold Hid; rw [hS0b.out, byt_app, byt_bs, takeF_zero]; rfl, HE2.out, HOP2.out⟩
      case round =>
        obtain ⟨q, S, hq, rfl, rfl, hSz, hS, he, hop'⟩ := hrel
        by_cases hlt : q < n1
        · obtain ⟨b, off, p, rfl, hp, hc⟩ := hop'.cell hlt
          obtain ⟨u, hu, hpu⟩ := parts_at HPS.out hp
          have hum := List.mem_of_getElem? hu
          have huw := trees_wf HFW.out u hum
          have hple : p.size ≤ z := by
            have := str_le F u hum
            rw [size_str hpu]; omega
          have hqF : q ≤ F.len := by have := hn1.out; omega
          have hst := Lib.hid (du_step q F u hu huw.2 hqF)
          have hul : u.du.str.length ≤ 100000 := by rw [Fo.du_str, ← size_str hpu]; omega
          have hus := Lib.hid (bs_size u.du.str)
          have HU := Lib.hid huw
          have HP := Lib.hid hpu
          have HO := Lib.hid hop'
          have HE := Lib.hid he
          clear hu hum huw hpu hp hop' he
          obtain ⟨T, hT⟩ : ∃ T, T = bs u.du.str := ⟨_, rfl⟩
          have HT := Lib.hid hT
          have hTz : T.size ≤ 100000 := by rw [hT, bs_size]; exact hul
          clear hT
          by_cases hq0 : q = 0
          · subst hq0
            rw [Nat.add_zero] at hc
            have z2 : ¬9223372036854775807 < S.size + T.size := by omega
            go_wp2_with fail
            refine (IH.out p u _ hple (by omega) HP.out HU.out.1 HU.out.2).mono ?_; rintro e w3 ⟨rfl, e3⟩
            rw [← HT.out]
            go_wp2_with fail
            go_roundw
            case rel => exact ⟨1, _, by omega, by go_num, rfl, by rw [cat_size]; omega, by unfold Hid; rw [byt_app, hS.out, HT.out, byt_bs, hst.out, if_pos trivial, takeF_zero]; rfl, HE.out.trans e3, HO.out.ext0 e3⟩
            case measure => simp [intOf]; omega
          · have hqI : (0 : Int) < (q : Int) := by omega
            have z2 : ¬9223372036854775807 < S.size + 1 := by omega
            have z3 : ¬9223372036854775807 < S.size + 1 + T.size := by omega
            go_wp2_with fail
            refine (IH.out p u _ hple (by omega) HP.out HU.out.1 HU.out.2).mono ?_; rintro e w3 ⟨rfl, e3⟩
            rw [← HT.out]
            go_wp2_with fail
            go_roundw
            case rel => exact ⟨q + 1, _, by omega, by go_num, rfl, by rw [cat_size, cat_size]; show S.size + 1 + T.size ≤ _; omega, by unfold Hid; rw [byt_app, byt_app, hS.out, HT.out, byt_bs, hst.out, if_neg hq0]; simp [byt], HE.out.trans e3, HO.out.ext0 e3⟩
            case measure => simp [intOf]; omega
        · obtain rfl : q = n1 := by omega
          have z2 : ¬9223372036854775807 < S.size + 1 := by omega
          have hfin := Lib.hid (show S ++ { data := #[41] } = bs (Fo.gate k F .nil).du.str from byt_inj (by
            rw [byt_app, hS.out, byt_bs, hgd.out, str_gate, ← hn1.out, takeF_all]; rfl))
          go_wp2_with fail
          go_ret
          exact ⟨congrArg (fun x => Ending.returned (.string x)) hfin.out, he⟩

set_option maxRecDepth 20000 in
set_option maxHeartbeats 400000 in
theorem sExprDual_any {s : ByteArray} {w : World} (hs : s.size ≤ 9223372036854775807) :
    Calls Try.prog 41 #[.string s] w fun e w' => e = .returned (.string (bs (dualL (byt s)))) ∧ Ext none w w' := by
  cases ho : okE (byt s)
  · have hfin := Lib.hid (dual_no ho).1
    go_enter Try.func41, Try.ntmps41
    go_wp2_with fail
    refine (sExprValid_any hs).mono ?_; rintro e w_ ⟨rfl, rfl⟩
    go_wp2_with fail
    go_ret
    exact ⟨by rw [hfin.out]; rfl, Ext.refl _ _⟩
  · obtain ⟨t, ht⟩ := ok_ex ho
    obtain ⟨h1, h2, h3, h4, _⟩ := ex_some ht
    have hfin := Lib.hid (dual_ex ht).1
    have H1 := Lib.hid h1
    have H2 := Lib.hid h2
    have H3 := Lib.hid h3
    rw [byt_len] at h4
    clear h1 h2 h3 ht
    go_enter Try.func41, Try.ntmps41
    go_wp2_with fail
    refine (sExprValid_any hs).mono ?_; rintro e w_ ⟨rfl, rfl⟩
    go_wp2_with fail
    refine (l2Dual_ind s.size s t _ (Nat.le_refl _) (by omega) H1.out H2.out H3.out).mono ?_; rintro e w1 ⟨rfl, he1⟩
    go_wp2_with fail
    go_ret
    exact ⟨by rw [hfin.out]; rfl, he1⟩
end Go.Proofs.Ytjjjpakgnipghaa
