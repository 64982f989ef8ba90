/- The expressions of package spec: the end of an expression, ExprValid. Conditions: each lemma's own. -/
import Derived.Test.YtnlmcbilhfmenaaS2
import Derived.Test.YtnlmcbilhfmenaaE2
namespace Go.Proofs.Ytnlmcbilhfmenaa
open Go.RowKit
set_option linter.unusedVariables false

/-- the bytes of a string -/
def byt (s : ByteArray) : List UInt8 := s.data.toList
theorem byt_len (s : ByteArray) : (byt s).length = s.size := Array.length_toList
theorem byt_at {s : ByteArray} {k : Nat} (h : k < s.size) : (byt s)[k]? = some (s[k]'h) := by
  unfold byt
  rw [List.getElem?_eq_getElem (by have := byt_len s; unfold byt at this; omega)]
  rfl
theorem byt_out {s : ByteArray} {k : Nat} (h : s.size ≤ k) : (byt s)[k]? = none := by
  rw [List.getElem?_eq_none (by rw [byt_len]; exact h)]
theorem dgv_sub {b : UInt8} (h : isDg b = true) : (b.toNat : Int) - 48 = ((dgv b : Nat) : Int) := by
  simp only [isDg, Bool.and_eq_true, decide_eq_true_eq] at h
  unfold dgv; omega


set_option maxHeartbeats 2000000 in
theorem l2End_ind (s : ByteArray) (hs : s.size ≤ 1000000) (m : Nat) : ∀ (j : Nat) (w : World), s.size + 1 ≤ j + m → j ≤ 1000001 →
    Calls Try.prog 104 #[.string s, .int .i64 j] w fun e w' => e = .returned (.int .i64 (endL (byt s) j)) ∧ w = w' := by
  induction m with
  | zero =>
    intro j w hm hj
    have hge : s.size ≤ j := by omega
    have hE := Lib.hid (endL_out (L := byt s) (j := j) (by rw [byt_len]; exact hge))
    go_enter Try.func104, Try.ntmps104
    go_wp2_with fail
    go_ret
    exact ⟨by rw [hE.out]; rfl, rfl⟩
  | succ m ih =>
    intro j w hm hj
    have IH := Lib.hid ih
    clear ih
    by_cases hlt : j < s.size
    · have hat := byt_at hlt
      have HA := Lib.hid hat
      clear hat
      cases hd : isDg (s[j]'hlt)
      · have hE := Lib.hid (endL_bad HA.out hd)
        have h2 : ((s[j]'hlt).toNat : Int) < 49 ∨ 54 < ((s[j]'hlt).toNat : Int) := by
          simp only [isDg, Bool.and_eq_false_iff, decide_eq_false_iff_not] at hd; omega
        clear hd
        rcases h2 with h2 | h2
        all_goals
          go_enter Try.func104, Try.ntmps104
          go_wp2_with fail
          go_ret
          exact ⟨by rw [hE.out]; rfl, rfl⟩
      · have hdd := hd
        simp only [isDg, Bool.and_eq_true, decide_eq_true_eq] at hdd
        have h49 : (49 : Int) ≤ ((s[j]'hlt).toNat : Int) := by omega
        have h54 : ((s[j]'hlt).toNat : Int) ≤ 54 := by omega
        clear hdd
        have HD := Lib.hid hd
        clear hd
        by_cases hlt2 : j + 1 < s.size
        · have HA2 := Lib.hid (byt_at hlt2)
          by_cases h40 : s[j + 1]'hlt2 = 40
          · have hb40 : (((s[j + 1]'hlt2).toNat : Int) != 40) = false := by rw [h40]; rfl
            have HG := Lib.hid (endL_gate HA.out HD.out (by rw [HA2.out, h40]))
            have H40 := Lib.hid h40
            clear h40
            have HK := Lib.hid (dgv_sub HD.out)
            have hk1 := (dg_dgv HD.out).2
            obtain ⟨k, hk⟩ : ∃ k, k = dgv (s[j]'hlt) := ⟨_, rfl⟩
            rw [← hk] at HG HK hk1
            clear hk
            have hsub : ((s[j]'hlt).toNat : Int) - 48 = (k : Int) := HK.out
            obtain ⟨hk1, hk6⟩ := hk1
            go_enter Try.func104, Try.ntmps104
            go_wp2_with fail
            go_loop [1, 6] (fun a p => ∃ (i q : Nat) (F : Fo), a = .int .i64 i ∧ p = .int .i64 q ∧ j + 1 ≤ i ∧ i ≤ s.size ∧ q ≤ 6 ∧ (q = 0 → i = j + 1) ∧ Hid (F.len = q ∧ endL (byt s) j = fin k (byt s).length (contP ((byt s).drop i) F)))
              (fun a _ => s.size - (intOf a).toNat)
            case atStart => exact ⟨j + 1, 0, .nil, by go_num, rfl, by omega, by omega, by omega, fun _ => rfl, rfl, by rw [contP_start]; exact HG.out⟩
            case round =>
              obtain ⟨i, q, F, rfl, rfl, hi1, hi2, hq6, hq0, HF⟩ := hrel
              by_cases hi : i < s.size
              · have HB := Lib.hid (byt_at hi)
                by_cases hz : q = 0
                · obtain rfl := hq0 hz
                  subst hz
                  have hb41 : (((s[j + 1]'hi).toNat : Int) != 41) = true := by rw [H40.out]; rfl
                  go_wp2_with fail
                  rw [show (j : Int) + 1 + 1 = ((j + 1 + 1 : Nat) : Int) from by omega]
                  refine (IH.out (j + 1 + 1) _ (by omega) (by omega)).mono ?_; rintro e w' ⟨rfl, rfl⟩
                  cases hp : px ((byt s).drop (j + 1 + 1)) with
                  | none =>
                    rw [endL_neg hp]
                    have hfin := Lib.hid (HF.out.2.trans (fin_stop (.inl HF.out.1) hp))
                    clear hp
                    go_wp2_with fail
                    go_ret
                    exact ⟨by rw [hfin.out]; rfl, rfl⟩
                  | some x =>
                    obtain ⟨t, r⟩ := x
                    obtain ⟨hr0, hr1, hr2, _, hr3⟩ := px_rest hp
                    have hst := contP_step (L := byt s) (j := j + 1) (F := F) (.inl HF.out.1) hp
                    rw [hr3]
                    obtain ⟨i', hi'⟩ : ∃ i', i' = (byt s).length - r.length := ⟨_, rfl⟩
                    rw [← hi'] at hst hr1 ⊢
                    rw [byt_len] at hi'
                    have hle : i' ≤ s.size := by omega
                    have HS := Lib.hid hst
                    clear hp hr0 hr2 hr3 hst hi'
                    go_wp2_with fail
                    go_round
                    case rel => exact ⟨i', 0 + 1, F.app t, rfl, by go_num, by omega, by omega, by omega, fun h => by omega, by rw [HS.out.2, HF.out.1], by rw [HF.out.2, HS.out.1]⟩
                    case measure => simp [intOf]; omega
                · have hqp : 0 < q := by omega
                  by_cases h41 : s[i]'hi = 41
                  · have hb41 : (((s[i]'hi).toNat : Int) != 41) = false := by rw [h41]; rfl
                    have hfin := Lib.hid (HF.out.2.trans (fin_close (by rw [HB.out, h41]) (by rw [HF.out.1]; exact hqp) (by rw [HF.out.1]; exact hq6)))
                    clear h41
                    by_cases hkq : k ≤ q
                    · have hkI : ¬ (q : Int) < (k : Int) := by omega
                      go_wp2_with fail
                      go_ret
                      exact ⟨by rw [hfin.out, HF.out.1, if_pos hkq]; rfl, rfl⟩
                    · have hkI : (q : Int) < (k : Int) := by omega
                      go_wp2_with fail
                      go_ret
                      exact ⟨by rw [hfin.out, HF.out.1, if_neg hkq]; rfl, rfl⟩
                  · have hb41 : (((s[i]'hi).toNat : Int) != 41) = true := by
                      rw [bne_iff_ne]; intro h; exact h41 (UInt8.toNat_inj.1 (by simpa using (by omega : (s[i]'hi).toNat = 41)))
                    by_cases h44 : s[i]'hi = 44
                    · have hb44 : (((s[i]'hi).toNat : Int) != 44) = false := by rw [h44]; rfl
                      by_cases h6 : q = 6
                      · subst h6
                        have hfin := Lib.hid (HF.out.2.trans (fin_many (by rw [HB.out]) h41 (by rw [HF.out.1]; omega)))
                        clear h41 h44
                        go_wp2_with fail
                        go_ret
                        exact ⟨by rw [hfin.out]; rfl, rfl⟩
                      · have hq5 : q < 6 := by omega
                        have H44 := Lib.hid (show (byt s)[i]? = some 44 from by rw [HB.out, h44])
                        clear h41 h44
                        go_wp2_with fail
                        rw [show (i : Int) + 1 = ((i + 1 : Nat) : Int) from by simp]
                        refine (IH.out (i + 1) _ (by omega) (by omega)).mono ?_; rintro e w' ⟨rfl, rfl⟩
                        cases hp : px ((byt s).drop (i + 1)) with
                        | none =>
                          rw [endL_neg hp]
                          have hfin := Lib.hid (HF.out.2.trans (fin_stop (.inr H44.out) hp))
                          clear hp
                          go_wp2_with fail
                          go_ret
                          exact ⟨by rw [hfin.out]; rfl, rfl⟩
                        | some x =>
                          obtain ⟨t, r⟩ := x
                          obtain ⟨hr0, hr1, hr2, _, hr3⟩ := px_rest hp
                          have hst := contP_step (L := byt s) (j := i) (F := F) (.inr H44.out) hp
                          rw [hr3]
                          obtain ⟨i', hi'⟩ : ∃ i', i' = (byt s).length - r.length := ⟨_, rfl⟩
                          rw [← hi'] at hst hr1 ⊢
                          rw [byt_len] at hi'
                          have hle : i' ≤ s.size := by omega
                          have HS := Lib.hid hst
                          clear hp hr0 hr2 hr3 hst hi'
                          go_wp2_with fail
                          go_round
                          case rel => exact ⟨i', q + 1, F.app t, rfl, by go_num, by omega, by omega, by omega, fun h => by omega, by rw [HS.out.2, HF.out.1], by rw [HF.out.2, HS.out.1]⟩
                          case measure => simp [intOf]; omega
                    · have hb44 : (((s[i]'hi).toNat : Int) != 44) = true := by
                        rw [bne_iff_ne]; intro h; exact h44 (UInt8.toNat_inj.1 (by simpa using (by omega : (s[i]'hi).toNat = 44)))
                      have hfin := Lib.hid (HF.out.2.trans (fin_bad (by rw [HB.out]) h41 h44 (by rw [HF.out.1]; exact hqp)))
                      clear h41 h44
                      go_wp2_with fail
                      go_ret
                      exact ⟨by rw [hfin.out]; rfl, rfl⟩
              · obtain rfl : i = s.size := by omega
                have hqp : 0 < q := by
                  rcases Nat.eq_zero_or_pos q with h0 | h0
                  · have := hq0 h0; omega
                  · exact h0
                have hfin := Lib.hid (HF.out.2.trans (fin_end (by rw [byt_len]; exact Nat.le_refl _) (by rw [HF.out.1]; exact hqp)))
                go_wp2_with fail
                go_ret
                exact ⟨by rw [hfin.out]; rfl, rfl⟩
          · have hb40 : (((s[j + 1]'hlt2).toNat : Int) != 40) = true := by
              rw [bne_iff_ne]; intro h; exact h40 (UInt8.toNat_inj.1 (by simpa using (by omega : (s[j + 1]'hlt2).toNat = 40)))
            have hE := Lib.hid (endL_leaf HA.out HD.out (by rw [HA2.out]; intro h; exact h40 (by simpa using h)))
            clear h40
            go_enter Try.func104, Try.ntmps104
            go_wp2_with fail
            go_ret
            exact ⟨by rw [hE.out]; rfl, rfl⟩
        · have hE := Lib.hid (endL_leaf HA.out HD.out (by rw [byt_out (by omega)]; simp))
          go_enter Try.func104, Try.ntmps104
          go_wp2_with fail
          go_ret
          exact ⟨by rw [hE.out]; rfl, rfl⟩
    · have hge : s.size ≤ j := by omega
      have hE := Lib.hid (endL_out (L := byt s) (j := j) (by rw [byt_len]; exact hge))
      go_enter Try.func104, Try.ntmps104
      go_wp2_with fail
      go_ret
      exact ⟨by rw [hE.out]; rfl, rfl⟩


theorem l2End_any {s : ByteArray} {j : Nat} {w : World} (hs : s.size ≤ 1000000) (hj : j ≤ 1000001) :
    Calls Try.prog 104 #[.string s, .int .i64 j] w fun e w' => e = .returned (.int .i64 (endL (byt s) j)) ∧ w = w' :=
  l2End_ind s hs (s.size + 1) j w (by omega) hj


set_option maxHeartbeats 400000 in
theorem sExprValid_any {s : ByteArray} {w : World} (hs : s.size ≤ 9223372036854775807) :
    Calls Try.prog 95 #[.string s] w fun e w' => e = .returned (.bool (okE (byt s))) ∧ w = w' := by
  by_cases h40 : s.size ≤ 40
  · have e := Lib.hid (okE_end (byt s) (by rw [byt_len]; exact h40))
    rw [byt_len] at e
    go_enter Try.func95, Try.ntmps95
    go_wp2_with fail
    rw [show (0 : Int) = ((0 : Nat) : Int) from rfl]
    refine (l2End_any (by omega) (by omega)).mono ?_; rintro e w' ⟨rfl, rfl⟩
    obtain ⟨q, hq⟩ : ∃ q, q = endL (byt s) 0 := ⟨_, rfl⟩
    rw [← hq] at e ⊢
    clear hq
    by_cases hqs : q = (s.size : Int)
    · have hb : (q == (s.size : Int)) = true := by rw [beq_iff_eq]; exact hqs
      by_cases h0 : 0 < s.size
      · have hfin := Lib.hid (show okE (byt s) = true from by rw [e.out, decide_eq_true hqs, decide_eq_true h0]; rfl)
        clear hqs
        go_wp2_with fail
        go_ret
        exact ⟨by rw [hfin.out]; rfl, rfl⟩
      · have hfin := Lib.hid (show okE (byt s) = false from by rw [e.out, decide_eq_false h0, Bool.and_false])
        clear hqs
        go_wp2_with fail
        go_ret
        exact ⟨by rw [hfin.out]; rfl, rfl⟩
    · have hb : (q == (s.size : Int)) = false := by rw [beq_eq_false_iff_ne]; exact hqs
      have hfin := Lib.hid (show okE (byt s) = false from by rw [e.out, decide_eq_false hqs]; rfl)
      clear hqs
      go_wp2_with fail
      go_ret
      exact ⟨by rw [hfin.out]; rfl, rfl⟩
  · have e := Lib.hid (okE_long (byt s) (by rw [byt_len]; exact h40))
    go_enter Try.func95, Try.ntmps95
    go_wp2_with fail
    go_ret
    exact ⟨by rw [e.out]; rfl, rfl⟩

end Go.Proofs.Ytnlmcbilhfmenaa
