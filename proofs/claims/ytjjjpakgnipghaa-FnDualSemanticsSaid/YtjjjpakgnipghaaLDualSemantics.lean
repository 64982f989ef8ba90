/- The walk of laws.FnDualSemantics: it returns true. Condition: the arguments are slices of bytes. -/
import Derived.Test.YtjjjpakgnipghaaJ5
namespace Go.Proofs.Ytjjjpakgnipghaa
open Go.RowKit
set_option linter.unusedVariables false

set_option maxRecDepth 20000 in
set_option maxHeartbeats 2000000 in
theorem FnDualSemantics_walk {a : Option Addr} {n c : Nat} {a' : Option Addr} {n' c' : Nat} {w : World} (h : Bytes w a n c) (h' : Bytes w a' n' c') :
    Calls Try.prog 9 #[.slice a n c, .slice a' n' c'] w fun e w' => e = .returned (.bool true) ∧ Ext none w w' := by
  clear h'
  rcases Nat.lt_or_ge 1048576 n with hl | hl
  · have hlI : (1048576 : Int) < (n : Int) := by omega
    go_enter Try.func9, Try.ntmps9
    go_wp2_with fail
    go_ret
    exact ⟨rfl, Ext.refl _ _⟩
  have hlI : ¬ (1048576 : Int) < (n : Int) := by omega
  rcases Nat.lt_or_ge 1048576 n' with hl' | hl'
  · have hlI' : (1048576 : Int) < (n' : Int) := by omega
    go_enter Try.func9, Try.ntmps9
    go_wp2_with fail
    go_ret
    exact ⟨rfl, Ext.refl _ _⟩
  have hlI' : ¬ (1048576 : Int) < (n' : Int) := by omega
  go_enter Try.func9, Try.ntmps9
  go_wp2_with fail
  refine (DrawExprDual_any h).mono ?_; rintro e w_ ⟨s, rfl, hsz, he⟩
  clear h
  have hs9 : s.size ≤ 9223372036854775807 := by omega
  cases hk : okE (byt s)
  · have hD := Lib.hid (show bs (dualL (byt s)) = { data := #[] } from by rw [(dual_no hk).1]; rfl)
    clear hk
    go_wp2_with fail
    refine (ExprDual_is hs9 hD.out).mono ?_; rintro e w_ ⟨rfl, e1⟩
    replace he := he.trans e1
    clear e1
    go_wp2_with fail
    refine (sExprDual_is hs9 hD.out).mono ?_; rintro e w_ ⟨rfl, e1⟩
    replace he := he.trans e1
    clear e1
    go_wp2_with fail
    refine (sExprDual_is hs9 hD.out).mono ?_; rintro e w_ ⟨rfl, e1⟩
    replace he := he.trans e1
    clear e1
    go_wp2_with fail
    go_ret
    exact ⟨rfl, he⟩
  · obtain ⟨D, hD⟩ : ∃ D, bs (dualL (byt s)) = D := ⟨_, rfl⟩
    obtain ⟨d1, d2, d3, d4, d5, d6⟩ := dual_ok hk
    have hb : byt D = dualL (byt s) := by rw [← hD, byt_bs]
    have hz : D.size = s.size := by rw [← hD, bs_size, d6, byt_len]
    have hne : D.toList.isEmpty = false := by
      rw [empty_iff hb]
      cases h0 : dualL (byt s) with
      | nil => exact absurd h0 d2
      | cons _ _ => rfl
    have HD := Lib.hid hD
    have HL := Lib.hid (show ∀ xs, valid xs = true → satisfiedE (byt D) xs = !satisfiedE (byt s) (minusL (mem 63) xs) from fun xs hx => by rw [hb]; exact dual_law hk hx)
    have HV := Lib.hid (show okE (byt D) = true from by rw [hb]; exact d1)
    have hD9 : D.size ≤ 9223372036854775807 := by omega
    clear hD d1 d2 d3 d4 d5 d6 hb hk hz
    go_wp2_with fail
    refine (ExprDual_is hs9 HD.out).mono ?_; rintro e w_ ⟨rfl, e1⟩
    replace he := he.trans e1
    clear e1
    go_wp2_with fail
    refine (sExprDual_is hs9 HD.out).mono ?_; rintro e w_ ⟨rfl, e1⟩
    replace he := he.trans e1
    clear e1
    go_wp2_with fail
    obtain ⟨wl, hwl⟩ : ∃ x, x = w_ := ⟨_, rfl⟩
    rw [← hwl] at he ⊢
    clear hwl
    go_loopw [7] (fun i wr => ∃ k : Nat, k ≤ 4 ∧ i = .int .i64 (k : Nat) ∧ Ext none wl wr)
      (fun i _ => 4 - (intOf i).toNat)
    case atStart => exact ⟨0, by omega, rfl, Ext.refl _ _⟩
    case round =>
      obtain ⟨k, hk4, rfl, hx⟩ := hrel
      by_cases hlt : k < 4
      · have hltI : (k : Int) < 4 := by omega
        have hq0 : (0 : Int) ≤ (n' : Int) + (k : Int) * 11 := by omega
        have hq1 : (n' : Int) + (k : Int) * 11 ≤ 2000000 := by omega
        go_wp2_with fail
        refine (setOf_any hq0 hq1).mono ?_; rintro e w3 ⟨a3, n3, c3, rfl, o3, e3⟩
        have i3 := o3.ints
        have HS := Lib.hid (HL.out _ (mem_valid (setN_lt ((n' : Int) + (k : Int) * 11))))
        obtain ⟨xs, hxs⟩ : ∃ xs, xs = mem (setN ((n' : Int) + (k : Int) * 11)) := ⟨_, rfl⟩
        rw [← hxs] at i3 HS
        obtain ⟨q, hq⟩ : ∃ q, satisfiedE (byt s) (minusL (mem 63) xs) = q := ⟨_, rfl⟩
        have HQ := Lib.hid hq
        have HQ2 := Lib.hid (show satisfiedE (byt D) xs = !q from by rw [HS.out, hq])
        have hx3 := hx.trans e3
        clear hq hxs o3 e3 hx HS
        cases q
        all_goals
          go_wp2_with fail
          refine (ExprSatisfied_is hD9 i3 HQ2.out).mono ?_; rintro e w4 ⟨rfl, e4⟩
          go_wp2_with fail
          refine allMembers_any.mono ?_; rintro e w5 ⟨a5, n5, c5, rfl, o5, e5⟩
          go_wp2_with fail
          refine (SetMinus_any o5.ints ((i3.ext e4).ext e5)).mono ?_; rintro e w6 ⟨a6, n6, c6, rfl, o6, e6⟩
          go_wp2_with fail
          refine (ExprSatisfied_is hs9 o6.ints HQ.out).mono ?_; rintro e w7 ⟨rfl, e7⟩
          have hx7 := hx3.trans (e4.trans (e5.trans (e6.trans e7)))
          clear o5 o6 e4 e5 e6 e7
          go_wp2_with fail
          go_roundw
          case rel => exact ⟨k + 1, by omega, by go_num, hx7⟩
          case measure => simp [intOf]; omega
      · obtain rfl : k = 4 := by omega
        go_wp2_with fail
        refine (ExprValid_is hD9 HV.out).mono ?_; rintro e w7 ⟨rfl, e7⟩
        go_wp2_with fail
        go_ret
        exact ⟨rfl, he.trans (hx.trans e7)⟩
end Go.Proofs.Ytjjjpakgnipghaa
