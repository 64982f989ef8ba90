/- The expressions of package spec: satisfaction. Conditions: each lemma's own. -/
import Derived.Test.YtnlmcbilhfmenaaS6
namespace Go.Proofs.Ytnlmcbilhfmenaa
open Go.RowKit
set_option linter.unusedVariables false


set_option maxHeartbeats 2000000 in
theorem l2Satisfied_ind (z : Nat) : ∀ (s : ByteArray) (t : Fo) (a : Option Addr) (n cp : Nat) (xs : List Int) (w : World), s.size ≤ z → z ≤ 1000000 → byt s = t.str → t.wf = true → t.len = 1 → Ints w a n xs → valid xs = true →
    Calls Try.prog 105 #[.string s, .slice a n cp] w fun e w' => e = .returned (.bool (sat (mask xs) t)) ∧ Ext none w w' := by
  induction z with
  | zero =>
    intro s t a n cp xs w hz _ hb _ hl
    have h0 : t ≠ .nil := Fo.ne_nil (by omega)
    have := str_pos h0
    rw [← size_str hb] at this
    omega
  | succ z ih =>
    intro s t a n cp xs w hz hz2 hb hw hl hx hv
    have IH := Lib.hid ih
    have HV := Lib.hid hv
    clear ih hv
    rcases one_tree hw hl with ⟨m, rfl, h1, h6⟩ | ⟨k, F, rfl, h1, hk, h6, hwF⟩
    · obtain ⟨h0, hbyte, hsz⟩ := leaf_byte hb h1 h6
      have hfin := Lib.hid (show cont xs (m : Int) = sat (mask xs) (Fo.leaf m .nil) from by rw [cont_valid _ HV.out, sat_leaf])
      have HB := Lib.hid hbyte
      have hsub : ((s[0]'h0).toNat : Int) - 48 = (m : Int) := by rw [hbyte]; omega
      have hszb : ((s.size : Int) == 1) = true := by rw [hsz]; rfl
      have hlo : (49 : Int) ≤ ((s[0]'h0).toNat : Int) := by omega
      have hhi : ((s[0]'h0).toNat : Int) ≤ 54 := by omega
      clear hbyte hsz hb
      go_enter Try.func105, Try.ntmps105
      go_wp2_with fail
      refine (l1Contains_any hx).mono ?_; rintro e w_ ⟨rfl, rfl⟩
      go_wp2_with fail
      go_ret
      exact ⟨by rw [← hfin.out]; rfl, Ext.refl _ _⟩
    · obtain ⟨h0, hbyte, hsz, hFs⟩ := gate_byte hb h1 (by omega)
      have HBY := Lib.hid hbyte
      have hsub : ((s[0]'h0).toNat : Int) - 48 = (k : Int) := by rw [hbyte]; omega
      have hlo : (49 : Int) ≤ ((s[0]'h0).toNat : Int) := by omega
      have hhi : ((s[0]'h0).toNat : Int) ≤ 54 := by omega
      clear hbyte
      have hszb : ((s.size : Int) == 1) = false := by rw [beq_eq_false_iff_ne]; omega
      have hF := Lib.hid (show F ≠ .nil from Fo.ne_nil (by omega))
      have HFW := Lib.hid hwF
      have HB := Lib.hid hb
      have hsg := Lib.hid (sat_gate (mask xs) k F)
      clear hb hw hl hwF
      go_enter Try.func105, Try.ntmps105
      go_wp2_with fail
      refine (l2Parts_any (by omega) HB.out HFW.out hF.out h6).mono ?_; rintro e w1 ⟨a1, n1, c1, ps, rfl, hop, hps, he1⟩
      have hn1 := Lib.hid ((parts_len hps).symm.trans hop.len)
      have hn6 : n1 ≤ 6 := by have := hn1.out; omega
      have HPS := Lib.hid hps
      clear hps
      replace hx := hx.ext he1
      go_wp2_with fail
      go_loopw [7, 8] (fun v i wr => ∃ (q g : Nat), q ≤ n1 ∧ i = .int .i64 q ∧ v = .int .i64 g ∧ g ≤ q ∧ Hid ((takeF q F).cnt (mask xs) = g) ∧ Ext none w wr ∧ OwnS wr w.heap.size a1 n1 c1 ps ∧ Ints wr a n xs)
        (fun _ i _ => n1 - (intOf i).toNat)
      case atStart => exact ⟨0, 0, by omega, rfl, rfl, by omega, takeF_cnt0 _ _, he1, hop, hx⟩
      case round =>
        obtain ⟨q, g, hq, rfl, rfl, hgq, hg, he, hop', hx'⟩ := hrel
        by_cases hlt : q < n1
        · obtain ⟨b, off, p, rfl, hp, hc⟩ := hop'.cell hlt
          obtain ⟨u, hu, hpu⟩ := parts_at HPS.out hp
          have hum := List.mem_of_getElem? hu
          have huw := trees_wf HFW.out u hum
          have hple : p.size ≤ z := by
            have := str_le F u hum
            rw [size_str hpu]; omega
          have hst := Lib.hid (cnt_step (mask xs) q F u hu)
          have h1 := Lib.hid (cnt_one (mask xs) u huw.2)
          have HU := Lib.hid huw
          have HP := Lib.hid hpu
          clear hu hum huw hpu hp
          go_wp2_with fail
          refine (IH.out p u _ _ _ xs _ hple (by omega) HP.out HU.out.1 HU.out.2 hx' HV.out).mono ?_; rintro e w3 ⟨rfl, he3⟩
          have hop3 := hop'.ext0 he3
          have hx3 := hx'.ext he3
          have heT := he.trans he3
          cases hsat : sat (mask xs) u
          · go_wp2_with fail
            go_roundw
            case rel => exact ⟨q + 1, g, by omega, by go_num, rfl, by omega, by unfold Hid; rw [hst.out, hg.out, h1.out, hsat]; rfl, heT, hop3, hx3⟩
            case measure => simp [intOf]; omega
          · go_wp2_with fail
            go_roundw
            case rel => exact ⟨q + 1, g + 1, by omega, by go_num, by go_num, by omega, by unfold Hid; rw [hst.out, hg.out, h1.out, hsat]; rfl, heT, hop3, hx3⟩
            case measure => simp [intOf]; omega
        · obtain rfl : q = n1 := by omega
          have hfin := Lib.hid (show sat (mask xs) (Fo.gate k F .nil) = decide (k ≤ g) from by rw [hsg.out, ← hg.out, ← hn1.out, takeF_all])
          by_cases hkg : k ≤ g
          · have hkI : (k : Int) ≤ (g : Int) := by omega
            go_wp2_with fail
            go_ret
            exact ⟨by rw [hfin.out, decide_eq_true hkg]; rfl, he⟩
          · have hkI : ¬ (k : Int) ≤ (g : Int) := by omega
            go_wp2_with fail
            go_ret
            exact ⟨by rw [hfin.out, decide_eq_false hkg]; rfl, he⟩



end Go.Proofs.Ytnlmcbilhfmenaa
