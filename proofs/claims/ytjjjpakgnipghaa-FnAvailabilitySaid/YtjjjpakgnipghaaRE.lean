/- The measures of package impl: many, measure. Conditions: each lemma's own. -/
import Derived.Test.YtjjjpakgnipghaaRC
import Derived.Test.YtjjjpakgnipghaaPQ
namespace Go.Proofs.Ytjjjpakgnipghaa
open Go.RowKit
set_option linter.unusedVariables false

def ocA (c : Int) : Int := IntKind.u64.wrap (bits BinOp.and IntKind.u64 (c / 2) 6148914691236517205 + bits BinOp.and IntKind.u64 c 6148914691236517205)
def ocB (c : Int) : Int := IntKind.u64.wrap (bits BinOp.and IntKind.u64 (c / 4) 3689348814741910323 + bits BinOp.and IntKind.u64 c 3689348814741910323)
def ocD (c : Int) : Int := bits BinOp.and IntKind.u64 (IntKind.u64.wrap (c / 16 + c)) 1085102592571150095
def ocE (c : Int) : Int := IntKind.u64.wrap (c + c / 256)
def ocF (c : Int) : Int := IntKind.u64.wrap (c + c / 65536)
def ocG (c : Int) : Int := IntKind.u64.wrap (c + c / 4294967296)
def ocH (c : Int) : Int := bits BinOp.and IntKind.i64 (wrap64 c) 127
theorem oc_many {c : Nat} (hc : c < 64) : ocH (ocG (ocF (ocE (ocD (ocB (ocA (c : Int))))))) = (many c : Nat) := by
  have key : ∀ c < 64, ocH (ocG (ocF (ocE (ocD (ocB (ocA ((c : Nat) : Int))))))) = ((many c : Nat) : Int) := by decide +kernel
  exact key c hc
set_option maxRecDepth 20000 in
set_option maxHeartbeats 1000000 in
theorem ones64_any {c : Nat} {w : World} (hc : c < 64) :
    Calls Try.prog 127 #[.int .u64 (c : Nat)] w fun e w' => e = .returned (.int .i64 (many c : Nat)) ∧ w = w' := by
  have K := Lib.hid (oc_many hc)
  go_enter Try.func127, Try.ntmps127
  go_wp2_with fail
  go_ret
  exact ⟨congrArg (fun x => Ending.returned (.int .i64 x)) K.out, rfl⟩
set_option maxRecDepth 20000 in
set_option maxHeartbeats 400000 in
theorem ones_any {c : Nat} {w : World} (hc : c < 64) :
    Calls Try.prog 119 #[.int .u64 (c : Nat)] w fun e w' => e = .returned (.int .i64 (many c : Nat)) ∧ w = w' := by
  go_enter Try.func119, Try.ntmps119
  go_wp2_with fail
  refine (ones64_any hc).mono ?_; rintro e w_ ⟨rfl, rfl⟩
  go_wp2_with fail
  go_ret
  exact ⟨rfl, rfl⟩
set_option maxRecDepth 20000 in
set_option maxHeartbeats 400000 in
theorem many_any {c : Nat} {w : World} (hc : c < 64) :
    Calls Try.prog 102 #[.int .u64 (c : Nat)] w fun e w' => e = .returned (.int .i64 (many c : Nat)) ∧ w = w' := by
  go_enter Try.func102, Try.ntmps102
  go_wp2_with fail
  refine (ones_any hc).mono ?_; rintro e w_ ⟨rfl, rfl⟩
  go_wp2_with fail
  go_ret
  exact ⟨rfl, rfl⟩

theorem fit_take {q : List Nat} {n k : Nat} (h : fitQ (q.take k) n = false) : fitQ q n = false := by
  cases hq : fitQ q n
  · rfl
  · exfalso
    unfold fitQ at *
    rw [List.all_eq_true] at hq
    have : (q.take k).all (fun x => sub x (firstM n)) = true := by
      rw [List.all_eq_true]; exact fun x hx => hq x (List.mem_of_mem_take hx)
    rw [this] at h; cases h
theorem fit_step (q : List Nat) (n k : Nat) (h : k < q.length) : fitQ (q.take (k + 1)) n = (fitQ (q.take k) n && sub (q.getD k 0) (firstM n)) := by
  rw [snoc_take q 0 k h]; unfold fitQ; rw [List.all_append]; simp
theorem first_wrap {k : Nat} (h : k ≤ 6) : IntKind.u64.wrap (IntKind.u64.wrap (2 ^ k) - 1) = ((firstM k : Nat) : Int) := by
  have key : ∀ k ≤ 6, IntKind.u64.wrap (IntKind.u64.wrap (2 ^ k) - 1) = ((firstM k : Nat) : Int) := by decide +kernel
  exact key k h
/-- what measure leaves: the quorums' masks, the first members, whether all is well -/
def RM (w : World) (f : List (List Int)) (n : Int) (q : Bool) (e : Ending) (w' : World) : Prop :=
  ∃ (a : Option Addr) (m c x : Nat), e = .returned (.tuple #[.slice a m c, .int .u64 (x : Nat), .bool q]) ∧ (q = true → OwnC w' w.heap.size a m c (masks f) ∧ x = firstM n.toNat) ∧ Ext none w w'
theorem RM.no {w w' : World} {f : List (List Int)} {n : Int} (h : Ext none w w') : RM w f n false (.returned (.tuple #[.slice none 0 0, .int .u64 0, .bool false])) w' :=
  ⟨none, 0, 0, 0, rfl, fun h => (by cases h), h⟩
theorem RM.yes {w w' : World} {f : List (List Int)} {n : Nat} {a : Option Addr} {m c : Nat} (ho : OwnC w' w.heap.size a m c (masks f)) (h : Ext none w w') : RM w f (n : Int) true (.returned (.tuple #[.slice a m c, .int .u64 (firstM n : Nat), .bool true])) w' :=
  ⟨a, m, c, firstM n, rfl, fun _ => ⟨ho, by simp⟩, h⟩
set_option maxRecDepth 20000 in
set_option maxHeartbeats 4000000 in
theorem measure_is {a : Option Addr} {n cp : Nat} {f : List (List Int)} {m : Int} {w : World} {q : Bool} (h : Fam w a n f) (hq : okR f m = q) :
    Calls Try.prog 66 #[.slice a n cp, .int .i64 m] w (RM w f m q) := by
  have hl := h.len
  cases hv : famB f
  · obtain rfl : q = false := by rw [← hq]; unfold okR okT; rw [hv]; rfl
    clear hq
    go_enter Try.func66, Try.ntmps66
    go_wp2_with fail
    refine (readFamily_is h hv).mono ?_; rintro e w1 ⟨a1, n1, c1, rfl, ho, he⟩
    go_wp2_with fail
    go_ret3
    exact RM.no he
  · have hrd : rdF f = masks f := by unfold rdF; rw [hv]; rfl
    have hlt64 := Lib.hid (masks_lt hv)
    by_cases h0 : n = 0
    · obtain rfl : q = false := by rw [← hq]; unfold okR; rw [okT_len hv, decide_eq_false (show ¬ 0 < f.length by omega)]; rfl
      clear hq
      subst h0
      have hrd := Lib.hid hrd
      have hl := Lib.hid hl
      go_enter Try.func66, Try.ntmps66
      go_wp2_with fail
      refine (readFamily_is h hv).mono ?_; rintro e w1 ⟨a1, n1, c1, rfl, ho, he⟩
      rw [hrd.out] at ho
      have hl1 := ho.len
      rw [masks_len, hl.out] at hl1
      subst hl1
      clear ho h hrd
      go_wp2_with fail
      go_ret3
      exact RM.no he
    · have hne : ((n : Int) == 0) = false := by rw [beq_eq_false_iff_ne]; omega
      have hT : okT f = true := by rw [okT_len hv, decide_eq_true_eq]; omega
      have hrd := Lib.hid hrd
      have hl := Lib.hid hl
      have hQ := Lib.hid (show (okN m && fitQ (masks f) m.toNat) = q from by rw [← hq]; unfold okR; rw [hT]; rfl)
      clear hq hT
      by_cases hN : 1 ≤ m ∧ m ≤ 6
      · obtain ⟨k, rfl⟩ := Int.eq_ofNat_of_zero_le (show 0 ≤ m by omega)
        have hk1 : ¬ ((k : Int) < 1) := by omega
        have hk6 : ¬ (6 < (k : Int)) := by omega
        have hk0 : ¬ ((k : Int) < 0) := by omega
        go_enter Try.func66, Try.ntmps66
        go_wp2_with fail
        refine (readFamily_is h hv).mono ?_; rintro e w1 ⟨a1, n1, c1, rfl, ho, he⟩
        rw [hrd.out] at ho
        have hl1 := ho.len
        rw [masks_len, hl.out] at hl1
        subst hl1
        have HO := Lib.hid ho
        clear ho h hrd hv
        have hmax := HO.out.crs.max
        have hfm := Lib.hid (first_wrap (show k ≤ 6 by omega))
        have hf64 := firstM_lt (show k ≤ 6 by omega)
        have hlm := Lib.hid (masks_len f)
        have hQk := Lib.hid (show fitQ (masks f) k = q from by
          have := hQ.out; rw [show okN (k : Int) = true from by unfold okN; rw [decide_eq_true hN.1, decide_eq_true hN.2]; rfl] at this
          simpa using this)
        obtain ⟨F, hF⟩ : ∃ F, F = firstM k := ⟨_, rfl⟩
        have HF := Lib.hid hF
        rw [← hF] at hf64
        clear hQ hN hF
        go_wp2_with fail
        rw [hfm.out, ← HF.out]
        go_loop [37] (fun i => ∃ j : Nat, j ≤ n ∧ i = .int .i64 (j : Nat) ∧ fitQ ((masks f).take j) k = true)
          (fun i => n - (intOf i).toNat)
        case atStart => exact ⟨0, by omega, rfl, rfl⟩
        case round =>
          obtain ⟨j, hj, rfl, ht⟩ := hrel
          have HT := Lib.hid ht
          clear ht
          by_cases hlt : j < n
          · have hltI : (j : Int) < (n : Int) := by omega
            have hjl : j < (masks f).length := by rw [hlm.out, hl.out]; exact hlt
            obtain ⟨b, off, rfl, hc⟩ := HO.out.crs.cell hlt
            have hx := getD_lt hlt64.out hjl
            have hst := Lib.hid (fit_step (masks f) k j hjl)
            obtain ⟨x, hxx⟩ : ∃ x, x = (masks f).getD j 0 := ⟨_, rfl⟩
            rw [← hxx, ← HF.out] at hst
            rw [← hxx] at hc hx
            clear hxx
            cases hs : sub x F
            · obtain rfl : q = false := by rw [← hQk.out]; exact fit_take (k := j + 1) (by rw [hst.out, hs, Bool.and_false])
              go_wp2_with fail
              refine (within_is hx hf64 hs).mono ?_; rintro e w_ ⟨rfl, rfl⟩
              go_wp2_with fail
              go_ret3
              exact RM.no he
            · have hnx := Lib.hid (show fitQ ((masks f).take (j + 1)) k = true from by rw [hst.out, hs, HT.out]; rfl)
              go_wp2_with fail
              refine (within_is hx hf64 hs).mono ?_; rintro e w_ ⟨rfl, rfl⟩
              go_wp2_with fail
              go_round
              case rel => exact ⟨j + 1, by omega, by go_num, hnx.out⟩
              case measure => simp [intOf]; omega
          · obtain rfl : j = n := by omega
            obtain rfl : q = true := by
              rw [← hQk.out]; have := HT.out; rwa [List.take_of_length_le (by rw [hlm.out, hl.out]; exact Nat.le_refl _)] at this
            go_wp2_with fail
            go_ret3
            rw [HF.out]
            exact RM.yes HO.out he
      · obtain rfl : q = false := by
          rw [← hQ.out, Bool.and_eq_false_iff]
          left
          unfold okN
          rw [Bool.and_eq_false_iff, decide_eq_false_iff_not, decide_eq_false_iff_not]; omega
        clear hQ
        by_cases h1 : m < 1
        all_goals
          have h2 : ¬ m < 1 → 6 < m := fun _ => by omega
          go_enter Try.func66, Try.ntmps66
          go_wp2_with fail
          refine (readFamily_is h hv).mono ?_; rintro e w1 ⟨a1, n1, c1, rfl, ho, he⟩
          rw [hrd.out] at ho
          have hl1 := ho.len
          rw [masks_len, hl.out] at hl1
          subst hl1
          clear ho h hrd hl
          first | (have h3 := h2 h1; clear h2 hN) | (clear h2 hN)
          go_wp2_with fail
          go_ret3
          exact RM.no he
end Go.Proofs.Ytjjjpakgnipghaa
