/- XPE: several texts in one. Conditions: each lemma's own. -/
import Derived.Test.YtnifgfnhcjhodaaPF
import Derived.Test.YtnifgfnhcjhodaaPQ
import Derived.Test.YtnifgfnhcjhodaaPA
import Derived.Test.YtnifgfnhcjhodaaS3


namespace Go.Proofs.Ytnifgfnhcjhodaa
open Go.RowKit
set_option linter.unusedVariables false

theorem eitherL_no {f g : List (List Int)} (h : ok2 f g = false) : eitherL f g = [] := by unfold eitherL; rw [h]; rfl
theorem bothL_no {f g : List (List Int)} (h : ok2 f g = false) : bothL f g = [] := by unfold bothL; rw [h]; rfl
theorem ok2_no1 {f : List (List Int)} (g : List (List Int)) (h : famB f = false) : ok2 f g = false := by unfold ok2; rw [h]; rfl
theorem ok2_no2 (f : List (List Int)) {g : List (List Int)} (h : famB g = false) : ok2 f g = false := by unfold ok2; rw [h, Bool.and_false]

theorem famL_snoc' (q : List Nat) (c : Nat) : famL (q ++ [c]) = famL q ++ [mem c] := by simp [famL]
theorem l2Satisfied_is {s : ByteArray} {t : Fo} {a : Option Addr} {n cp : Nat} {xs : List Int} {w : World} {q : Bool} (hs : s.size ≤ 1000000) (h1 : byt s = t.str) (h2 : t.wf = true) (h3 : t.len = 1) (hx : Ints w a n xs) (hv : valid xs = true) (hq : sat (mask xs) t = q) :
    Calls Try.prog 102 #[.string s, .slice a n cp] w fun e w' => e = .returned (.bool q) ∧ Ext none w w' := by
  rw [← hq]; exact l2Satisfied_ind s.size s t _ _ _ xs _ (Nat.le_refl _) hs h1 h2 h3 hx hv

set_option maxHeartbeats 2000000 in
theorem l3OfExpr_any {s : ByteArray} {w : World} (ho : okE (byt s) = true) :
    Calls Try.prog 88 #[.string s] w (RF w (ofExprL (byt s))) := by
  obtain ⟨t, ht⟩ : ∃ t, ex (byt s) = some t := Option.isSome_iff_exists.1 ho
  obtain ⟨h1, h2, h3, h4, _⟩ := ex_some ht
  have hS := Lib.hid (show ∀ c, satE (byt s) c = sat c t from fun c => by unfold satE; rw [ht])
  have hfin := Lib.hid (show minL (famL (fltrTo (satE (byt s)) 64)) = ofExprL (byt s) from by rw [minL_fltr, ofExprL_yes ho])
  have H1 := Lib.hid h1
  have H2 := Lib.hid h2
  have H3 := Lib.hid h3
  rw [byt_len] at h4
  have hsz : s.size ≤ 1000000 := by omega
  clear h1 h2 h3 ht ho h4
  go_enter Try.func88, Try.ntmps88
  go_wp2_with fail
  go_loopw [3, 4] (fun q i wr => ∃ (k : Nat) (a2 : Option Addr) (n2 c2 : Nat), k ≤ 64 ∧ i = .int .i64 k ∧ q = .slice a2 n2 c2 ∧ OwnF wr w.heap.size w.heap.size a2 n2 c2 (famL (fltrTo (satE (byt s)) k)) ∧ Ext none w wr)
    (fun _ i _ => 64 - (intOf i).toNat)
  case atStart => exact ⟨0, _, _, _, by omega, rfl, rfl, OwnF.made w _, (Ext.refl _ _).alloc _⟩
  case round =>
    obtain ⟨k, a2, n2, c2, hk, rfl, rfl, ho, he⟩ := hrel
    by_cases hlt : k < 64
    · have hltI : (k : Int) < 64 := by omega
      have hn2 : n2 ≤ 64 := by rw [← ho.len, famL_len]; exact Nat.le_trans (fltrTo_len _ k) hk
      have hst := Lib.hid (fltrTo_succ (satE (byt s)) k)
      go_wp2_with fail
      refine (l1Masks_any).mono ?_; rintro e w_ ⟨rfl, rfl⟩
      go_wp2_with fail
      refine (l1OfMask_any hlt).mono ?_; rintro e w1 ⟨a3, n3, c3, rfl, o3, e3⟩
      have ho1 := ho.ext0 e3
      have i3 := o3.ints
      have hrow := Lib.hid (o3.row (r := (Value.slice a2 n2 c2).ownBlock) (R := w.heap.size) (fun j hj => ho.blockLt j hj) he.size)
      have he1 := Lib.hid (he.trans e3)
      clear ho o3 e3 he
      cases hq : sat k t
      · go_wp2_with fail
        refine (l2Satisfied_is (q := false) hsz H1.out H2.out H3.out i3 (mem_valid hlt) (by rw [mask_mem hlt]; exact hq)).mono ?_; rintro e w4 ⟨rfl, e4⟩
        go_wp2_with fail
        go_roundw
        case rel => exact ⟨k + 1, a2, n2, c2, by omega, by go_num, rfl, by rw [hst.out, hS.out, hq]; exact ho1.ext0 e4, he1.out.trans e4⟩
        case measure => simp [intOf]; omega
      · go_wp2_with fail
        refine (l2Satisfied_is (q := true) hsz H1.out H2.out H3.out i3 (mem_valid hlt) (by rw [mask_mem hlt]; exact hq)).mono ?_; rintro e w4 ⟨rfl, e4⟩
        have ho2 := ho1.ext0 e4
        have hr2 := hrow.out.ext e4
        go_wp2_with (at_builtin; refine app_row _ rfl _ _ rfl w.heap.size w.heap.size a2 n2 c2 _ ho2 a3 n3 c3 _ hr2 rfl rfl (by omega) (he1.out.trans e4).size ?_; intro g c' w9 ho9 hg9)
        go_roundw
        case rel => exact ⟨k + 1, _, _, _, by omega, by go_num, rfl, by rw [hst.out, hS.out, hq, if_pos rfl, famL_snoc]; exact ho9, (he1.out.trans e4).grown hg9 (fun q hq => .inl (ho2.block q hq))⟩
        case measure => simp [intOf]; omega
    · obtain rfl : k = 64 := by omega
      have hF := ho.fam
      go_wp2_with fail
      refine (l1Masks_any).mono ?_; rintro e w_ ⟨rfl, rfl⟩
      go_wp2_with fail
      refine (l3Minimize_any hF).mono ?_; rintro e w7 ⟨a7, n7, c7, rfl, o7, e7⟩
      rw [hfin.out] at o7
      go_wp2_with fail
      go_ret
      exact ⟨a7, n7, c7, rfl, o7.mono he.size he.size, he.trans e7⟩

theorem sExprValid_is {s : ByteArray} {w : World} {q : Bool} (hs : s.size ≤ 9223372036854775807) (hq : okE (byt s) = q) :
    Calls Try.prog 87 #[.string s] w fun e w' => e = .returned (.bool q) ∧ w = w' := by
  rw [← hq]; exact sExprValid_any hs
set_option maxHeartbeats 1000000 in
theorem sFamilyOfExpr_any {s : ByteArray} {w : World} (hs : s.size ≤ 9223372036854775807) :
    Calls Try.prog 60 #[.string s] w (RFB w (ofExprL (byt s)) (okE (byt s))) := by
  cases ho : okE (byt s)
  · have hno2 := Lib.hid (ofExprL_no ho)
    go_enter Try.func60, Try.ntmps60
    go_wp2_with fail
    refine (sExprValid_is hs ho).mono ?_; rintro e w_ ⟨rfl, rfl⟩
    go_wp2_with fail
    go_ret2
    exact ⟨_, _, _, rfl, by rw [hno2.out]; exact OwnF.made _ _, (Ext.refl _ _).alloc _⟩
  · go_enter Try.func60, Try.ntmps60
    go_wp2_with fail
    refine (sExprValid_is hs ho).mono ?_; rintro e w_ ⟨rfl, rfl⟩
    go_wp2_with fail
    refine (l3OfExpr_any ho).mono ?_; rintro e w3 ⟨a3, n3, c3, rfl, o3, e3⟩
    go_wp2_with fail
    go_ret2
    exact ⟨_, _, _, rfl, o3, e3⟩

theorem sWeightsValid_is {a : Option Addr} {n cp : Nat} {xs : List Int} {w : World} {q : Bool} (h : Ints w a n xs) (hq : valW xs = q) :
    Calls Try.prog 92 #[.slice a n cp] w fun e w' => e = .returned (.bool q) ∧ w = w' := by
  rw [← hq]; exact sWeightsValid_any h
theorem l6In_is {n lo hi : Int} {w : World} {q : Bool} (hq : inB n lo hi = q) :
    Calls Try.prog 55 #[.int .i64 n, .int .i64 lo, .int .i64 hi] w fun e w' => e = .returned (.bool q) ∧ w = w' := by
  rw [← hq]; exact l6In_any
theorem l4Sum_mem {a : Option Addr} {n cp : Nat} {ws : List Int} {b : Option Addr} {m cq c : Nat} {w : World} {q : Int} (h : Ints w a n ws) (hs : Ints w b m (mem c)) (hw : valW ws = true) (hc : c < 64) (hq : sumW ws c = q) :
    Calls Try.prog 93 #[.slice a n cp, .slice b m cq] w fun e w' => e = .returned (.int .i64 q) ∧ w = w' := by
  have := l4Sum_any (cp := cp) (cq := cq) h hs hw (mem_valid hc)
  rw [mask_mem hc, hq] at this; exact this

set_option maxHeartbeats 4000000 in
theorem sWeightsFamily_any {a : Option Addr} {n cp : Nat} {ws : List Int} {need : Int} {w : World} (h : Ints w a n ws) :
    Calls Try.prog 62 #[.slice a n cp, .int .i64 need] w (RFB w (wFamL ws need) (okW ws need)) := by
  cases hv : valW ws
  · have hno := Lib.hid (show okW ws need = false from by unfold okW; rw [hv]; rfl)
    have hno2 := Lib.hid (wFamL_no hno.out)
    go_enter Try.func62, Try.ntmps62
    go_wp2_with fail
    refine (sWeightsValid_is h hv).mono ?_; rintro e w_ ⟨rfl, rfl⟩
    go_wp2_with fail
    go_ret2
    exact ⟨_, _, _, by rw [hno.out]; rfl, by rw [hno2.out]; exact OwnF.made _ _, (Ext.refl _ _).alloc _⟩
  · have hbd := sumW_bd hv 63
    obtain ⟨tot, htot⟩ : ∃ t, t = sumW ws 63 := ⟨_, rfl⟩
    rw [← htot] at hbd
    have hok := Lib.hid (show okW ws need = inB need 1 tot from by unfold okW inB; rw [hv, htot]; rfl)
    have HT := Lib.hid htot
    clear htot
    cases hin : inB need 1 tot
    · have hno := Lib.hid (hok.out.trans hin)
      have hno2 := Lib.hid (wFamL_no hno.out)
      go_enter Try.func62, Try.ntmps62
      go_wp2_with fail
      refine (sWeightsValid_is h hv).mono ?_; rintro e w_ ⟨rfl, rfl⟩
      go_wp2_with fail
      refine (l1Masks_any).mono ?_; rintro e w_ ⟨rfl, rfl⟩
      go_wp2_with fail
      refine (l1OfMask_any (c := 63) (by decide)).mono ?_; rintro e w1 ⟨a3, n3, c3, rfl, o3, e3⟩
      go_wp2_with fail
      refine (l4Sum_mem (h.ext e3) o3.ints hv (by decide) HT.out.symm).mono ?_; rintro e w_ ⟨rfl, rfl⟩
      go_wp2_with fail
      refine (l6In_is hin).mono ?_; rintro e w_ ⟨rfl, rfl⟩
      go_wp2_with fail
      go_ret2
      exact ⟨_, _, _, by rw [hno.out]; rfl, by rw [hno2.out]; exact (OwnF.made w1 _).mono e3.size (Nat.le_refl _), e3.alloc _⟩
    · have hyes := Lib.hid (hok.out.trans hin)
      have hfin := Lib.hid (show minL (famL (fltrTo (enough ws need) 64)) = wFamL ws need from by rw [minL_fltr, wFamL_yes hyes.out])
      have H := Lib.hid h
      have HB := Lib.hid (fun c => sumW_bd hv c)
      go_enter Try.func62, Try.ntmps62
      go_wp2_with fail
      refine (sWeightsValid_is h hv).mono ?_; rintro e w_ ⟨rfl, rfl⟩
      go_wp2_with fail
      refine (l1Masks_any).mono ?_; rintro e w_ ⟨rfl, rfl⟩
      go_wp2_with fail
      refine (l1OfMask_any (c := 63) (by decide)).mono ?_; rintro e w1 ⟨a3, n3, c3, rfl, o3, e3⟩
      go_wp2_with fail
      refine (l4Sum_mem (h.ext e3) o3.ints hv (by decide) HT.out.symm).mono ?_; rintro e w_ ⟨rfl, rfl⟩
      go_wp2_with fail
      refine (l6In_is hin).mono ?_; rintro e w_ ⟨rfl, rfl⟩
      have hm0 := (OwnF.made w1 w.heap.size).mono e3.size (Nat.le_refl _)
      have he0 := e3.alloc (.cells #[] 26)
      clear o3 e3 h
      go_wp2_with fail
      go_loopw [6, 7] (fun q i wr => ∃ (k : Nat) (a2 : Option Addr) (n2 c2 : Nat), k ≤ 64 ∧ i = .int .i64 k ∧ q = .slice a2 n2 c2 ∧ OwnF wr w.heap.size w.heap.size a2 n2 c2 (famL (fltrTo (enough ws need) k)) ∧ Ext none w wr)
        (fun _ i _ => 64 - (intOf i).toNat)
      case atStart => exact ⟨0, _, _, _, by omega, rfl, rfl, hm0, he0⟩
      case round =>
        obtain ⟨k, a2, n2, c2, hk, rfl, rfl, ho, he⟩ := hrel
        by_cases hlt : k < 64
        · have hltI : (k : Int) < 64 := by omega
          have hn2 : n2 ≤ 64 := by rw [← ho.len, famL_len]; exact Nat.le_trans (fltrTo_len _ k) hk
          have hst := Lib.hid (fltrTo_succ (enough ws need) k)
          obtain ⟨q, hqq⟩ : ∃ q, sumW ws k = q := ⟨_, rfl⟩
          have HQ := Lib.hid hqq
          clear hqq
          go_wp2_with fail
          refine (l1Masks_any).mono ?_; rintro e w_ ⟨rfl, rfl⟩
          go_wp2_with fail
          refine (l1OfMask_any hlt).mono ?_; rintro e w3 ⟨a3, n3, c3, rfl, o3, e3⟩
          have ho1 := ho.ext0 e3
          have i3 := o3.ints
          have he1 := Lib.hid (he.trans e3)
          clear ho o3 e3 he
          by_cases hle : need ≤ q
          · have hen := Lib.hid (show enough ws need k = true from by unfold enough; rw [HQ.out, decide_eq_true hle])
            go_wp2_with fail
            refine (l4Sum_mem (H.out.ext he1.out) i3 hv hlt HQ.out).mono ?_; rintro e w_ ⟨rfl, rfl⟩
            go_wp2_with fail
            refine (l1OfMask_any hlt).mono ?_; rintro e w4 ⟨a4, n4, c4, rfl, o4, e4⟩
            have hr2 := o4.row (r := (Value.slice a2 n2 c2).ownBlock) (R := w.heap.size) (fun j hj => ho1.blockLt j hj) he1.out.size
            have ho2 := ho1.ext0 e4
            have he2 := Lib.hid (he1.out.trans e4)
            clear o4 e4
            go_wp2_with (at_builtin; refine app_row _ rfl _ _ rfl w.heap.size w.heap.size a2 n2 c2 _ ho2 a4 n4 c4 _ hr2 rfl rfl (by omega) he2.out.size ?_; intro g c' w9 ho9 hg9)
            go_roundw
            case rel => exact ⟨k + 1, _, _, _, by omega, by go_num, rfl, by rw [hst.out, hen.out, if_pos rfl, famL_snoc]; exact ho9, he2.out.grown hg9 (fun q hq => .inl (ho2.block q hq))⟩
            case measure => simp [intOf]; omega
          · have hen := Lib.hid (show enough ws need k = false from by unfold enough; rw [HQ.out, decide_eq_false hle])
            go_wp2_with fail
            refine (l4Sum_mem (H.out.ext he1.out) i3 hv hlt HQ.out).mono ?_; rintro e w_ ⟨rfl, rfl⟩
            go_wp2_with fail
            go_roundw
            case rel => exact ⟨k + 1, a2, n2, c2, by omega, by go_num, rfl, by rw [hst.out, hen.out]; exact ho1, he1.out⟩
            case measure => simp [intOf]; omega
        · obtain rfl : k = 64 := by omega
          have hF := ho.fam
          go_wp2_with fail
          refine (l1Masks_any).mono ?_; rintro e w_ ⟨rfl, rfl⟩
          go_wp2_with fail
          refine (l3Minimize_any hF).mono ?_; rintro e w7 ⟨a7, n7, c7, rfl, o7, e7⟩
          rw [hfin.out] at o7
          go_wp2_with fail
          go_ret2
          exact ⟨a7, n7, c7, by rw [hyes.out]; rfl, o7.mono he.size he.size, he.trans e7⟩
end Go.Proofs.Ytnifgfnhcjhodaa
