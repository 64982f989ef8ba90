/- The threshold of a set: ExprThreshold of package spec. Conditions: each lemma's own. -/
import Derived.Test.YtjjjpakgnipghaaDoorK1
namespace Go.Proofs.YtjjjpakgnipghaaDoor
open Go.RowKit
set_option linter.unusedVariables false

theorem lv_step (xs : List Int) (q : Nat) (h : q < xs.length) : (leaves (xs.take (q + 1))).str = if q = 0 then [Fo.dg (xs.getD q 0).toNat] else (leaves (xs.take q)).str ++ [44, Fo.dg (xs.getD q 0).toNat] := by
  rw [thr_take xs q h]
  split
  · rename_i h0; subst h0; rfl
  · rename_i h0
    rw [Fo.str_app (Fo.ne_nil (by rw [leaves_len, List.length_take]; omega)) (by simp)]; rfl
set_option maxRecDepth 20000 in
set_option maxHeartbeats 2000000 in
theorem l1Format_any {a : Option Addr} {n cp : Nat} {xs : List Int} {w : World} (h : Ints w a n xs) (hv : valid xs = true) :
    Calls Tryd.prog 27 #[.slice a n cp] w fun e w' => e = .returned (.string (bs (123 :: ((leaves xs).str ++ [125])))) ∧ Ext none w w' := by
  have hl := Lib.hid h.len
  have H := Lib.hid h
  have hn6 : n ≤ 6 := by rw [← h.len]; exact valid_len hv
  have hget := Lib.hid (valid_get hv)
  clear h hv
  go_enter Tryd.func27, Tryd.ntmps27
  go_wp2_with fail
  go_loopw [3, 4] (fun v i wr => ∃ (q : Nat) (S : ByteArray), q ≤ n ∧ i = .int .i64 (q : Nat) ∧ v = .string S ∧ S.size ≤ 1 + 2 * q ∧ Hid (byt S = 123 :: (leaves (xs.take q)).str) ∧ Ext none w wr)
    (fun _ i _ => n - (intOf i).toNat)
  case atStart => exact ⟨0, _, by omega, rfl, rfl, by simp [ByteArray.size], by unfold Hid; rw [List.take_zero]; rfl, Ext.refl _ _⟩
  case round =>
    obtain ⟨q, S, hq, rfl, rfl, hSz, hS, he⟩ := hrel
    by_cases hlt : q < n
    · have hltI : (q : Int) < (n : Int) := by omega
      have hql : q < xs.length := by rw [hl.out]; exact hlt
      obtain ⟨b2, off, rfl, hcell⟩ := (H.out.ext he).cell hlt
      have hgt := hget.out q hql
      have hst := Lib.hid (lv_step xs q hql)
      obtain ⟨m, hmx⟩ := Int.eq_ofNat_of_zero_le (show 0 ≤ xs.getD q 0 by omega)
      rw [hmx] at hcell hst
      have hm9 : m ≤ 9 := by omega
      have HE := Lib.hid he
      clear hmx hgt he
      by_cases hq0 : q = 0
      · subst hq0
        rw [Nat.add_zero] at hcell
        go_wp2_with fail
        refine (l6Dec_any hm9).mono ?_; rintro e w2 ⟨T, rfl, hT, e2⟩
        have hTz : T.size = 1 := by rw [← byt_len, hT]; rfl
        have z1 : ¬9223372036854775807 < S.size + T.size := by omega
        have HT := Lib.hid hT
        clear hT
        go_wp2_with fail
        go_roundw
        case rel => exact ⟨1, _, by omega, by go_num, rfl, by rw [cat_size]; omega, by unfold Hid; rw [byt_app, hS.out, HT.out, hst.out, if_pos trivial, List.take_zero]; rfl, HE.out.trans e2⟩
        case measure => simp [intOf]; omega
      · have hqI : (0 : Int) < (q : Int) := by omega
        have z0 : ¬9223372036854775807 < S.size + 1 := by omega
        go_wp2_with fail
        refine (l6Dec_any hm9).mono ?_; rintro e w2 ⟨T, rfl, hT, e2⟩
        have hTz : T.size = 1 := by rw [← byt_len, hT]; rfl
        have z1 : ¬9223372036854775807 < S.size + 1 + T.size := by omega
        have HT := Lib.hid hT
        clear hT
        go_wp2_with fail
        go_roundw
        case rel => exact ⟨q + 1, _, by omega, by go_num, rfl, by rw [cat_size, cat_size]; show S.size + 1 + T.size ≤ _; omega, by unfold Hid; rw [byt_app, byt_app, hS.out, HT.out, hst.out, if_neg hq0]; simp [byt], HE.out.trans e2⟩
        case measure => simp [intOf]; omega
    · obtain rfl : q = n := by omega
      have z0 : ¬9223372036854775807 < S.size + 1 := by omega
      have hfin := Lib.hid (show S ++ { data := #[125] } = bs (123 :: ((leaves xs).str ++ [125])) from byt_inj (by
        rw [byt_app, hS.out, byt_bs, List.take_of_length_le (by rw [hl.out]; exact Nat.le_refl _)]; rfl))
      go_wp2_with fail
      go_ret
      exact ⟨congrArg (fun x => Ending.returned (.string x)) hfin.out, he⟩

set_option maxRecDepth 20000 in
set_option maxHeartbeats 2000000 in
theorem sExprThreshold_is {a : Option Addr} {n cp : Nat} {xs : List Int} {k : Int} {w : World} {q : Bool} (h : Ints w a n xs) (hq : okTh k xs = q) :
    Calls Tryd.prog 7 #[.int .i64 k, .slice a n cp] w (ThR w k xs q) := by
  have hl := Lib.hid h.len
  have H := Lib.hid h
  have hm := h.max
  clear h
  cases hv : valid xs
  · obtain rfl : q = false := by rw [← hq]; unfold okTh; rw [hv]; rfl
    have hno := Lib.hid (thr_no hq)
    clear hq
    go_enter Tryd.func7, Tryd.ntmps7
    go_wp2_with fail
    refine (sSetValid_is H.out hv).mono ?_; rintro e w1 ⟨rfl, e1⟩
    go_wp2_with fail
    go_ret2
    exact ⟨by rw [hno.out]; rfl, e1.ext⟩
  · cases hk : inB k 1 n
    · obtain rfl : q = false := by rw [← hq]; unfold okTh; unfold inB at hk; rw [hl.out, hk, Bool.and_false]
      have hno := Lib.hid (thr_no hq)
      clear hq
      go_enter Tryd.func7, Tryd.ntmps7
      go_wp2_with fail
      refine (sSetValid_is H.out hv).mono ?_; rintro e w1 ⟨rfl, e1⟩
      go_wp2_with fail
      refine (l6In_is hk).mono ?_; rintro e w_ ⟨rfl, rfl⟩
      go_wp2_with fail
      go_ret2
      exact ⟨by rw [hno.out]; rfl, e1.ext⟩
    · obtain rfl : q = true := by rw [← hq]; unfold okTh; unfold inB at hk; rw [hv, hl.out, hk]; rfl
      have hk2 : 1 ≤ k ∧ k ≤ (n : Int) := by unfold inB at hk; rw [Bool.and_eq_true, decide_eq_true_eq, decide_eq_true_eq] at hk; exact hk
      have hn6 : n ≤ 6 := by rw [← hl.out]; exact valid_len hv
      obtain ⟨d, rfl⟩ := Int.eq_ofNat_of_zero_le (show 0 ≤ k by omega)
      have hd9 : d ≤ 9 := by omega
      have htl := thr_len hq
      have hyes := Lib.hid (thr_yes hq)
      obtain ⟨F, hF⟩ : ∃ F, F = bs (123 :: ((leaves xs).str ++ [125])) := ⟨_, rfl⟩
      have hFz : F.size = (leaves xs).str.length + 2 := by rw [hF, bs_size]; simp
      have hF14 : (leaves xs).str.length ≤ 14 := by
        unfold thrF at htl; rw [str_gate] at htl; simp only [List.length_cons, List.length_append, List.length_nil] at htl; omega
      have HF := Lib.hid hF
      obtain ⟨p, hp⟩ : ∃ p, p = (leaves xs).str.length := ⟨_, rfl⟩
      rw [← hp] at hFz hF14
      have HP := Lib.hid hp
      obtain ⟨r, hr⟩ : ∃ r, r = p + 1 := ⟨_, rfl⟩
      have hwr : IntKind.i64.wrap ((F.size : Int) - 1) = (r : Int) := by rw [IntWalk.i64_in _ ⟨by omega, by omega⟩]; omega
      have hb1 : (r : Int) ≤ (F.size : Int) := by omega
      have hb2 : (1 : Int) ≤ (r : Int) := by omega
      have hb3 : (0 : Int) ≤ (r : Int) := by omega
      have hcat := Lib.hid (show byt (F.extract 1 r) = (leaves xs).str from by
        rw [byt_extract, HF.out, byt_bs, hr, HP.out]
        simp)
      obtain ⟨G, hG⟩ : ∃ G, F.extract 1 r = G := ⟨_, rfl⟩
      have hGz : G.size ≤ 14 := by rw [← hG, ByteArray.size_extract]; omega
      rw [hG] at hcat
      have HFZ := Lib.hid hFz
      clear hFz hr
      clear hq hF hp htl hk
      have hk3 := Lib.hid (show inB (d : Int) 1 n = true from by unfold inB; rw [decide_eq_true hk2.1, decide_eq_true hk2.2]; rfl)
      go_enter Tryd.func7, Tryd.ntmps7
      go_wp2_with fail
      refine (sSetValid_is H.out hv).mono ?_; rintro e w1 ⟨rfl, e1⟩
      go_wp2_with fail
      refine (l6In_is hk3.out).mono ?_; rintro e w_ ⟨rfl, rfl⟩
      go_wp2_with fail
      refine (l1Format_any (H.out.ext (e1.ext (r := none))) hv).mono ?_; rintro e w2 ⟨rfl, e2⟩
      rw [← HF.out]
      have hE := (e1.ext (r := none)).trans e2
      go_wp2_with fail
      go_region_law (go_simp; go_at_call 28; refine (l6Dec_any hd9).mono ?_; rintro e w3 ⟨T, rfl, hT, e3⟩; have hTz : T.size = 1 := (by rw [← byt_len, hT]; rfl); have HT := Lib.hid hT; clear hT; have z1 : ¬9223372036854775807 < T.size + 1 := (by omega); have z2 : ¬9223372036854775807 < T.size + 1 + G.size := (by omega); have z3 : ¬9223372036854775807 < T.size + 1 + G.size + 1 := (by omega); clear hTz)
      all_goals
        go_wp2_with fail
        go_ret2
        refine ⟨?_, hE.drew.trans e3⟩
        rw [hyes.out]
        exact congrArg (fun x => Ending.returned (.tuple #[.string x, .bool true])) (byt_inj (by
          rw [byt_app, byt_app, byt_app, hcat.out, HT.out, byt_bs]
          show _ = (Fo.gate d (leaves xs) .nil).str
          rw [str_gate]; simp [byt]))
end Go.Proofs.YtjjjpakgnipghaaDoor
