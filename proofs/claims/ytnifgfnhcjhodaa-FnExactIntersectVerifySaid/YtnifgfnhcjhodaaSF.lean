/- The quorum systems of package spec: FamilyTransversals. Conditions: each lemma's own. -/
import Derived.Test.YtnifgfnhcjhodaaPE
import Derived.Test.YtnifgfnhcjhodaaPQ
namespace Go.Proofs.Ytnifgfnhcjhodaa
open Go.RowKit
set_option linter.unusedVariables false

theorem hits_step (f : List (List Int)) (c k : Nat) (h : k < f.length) : hitsQ (masks (f.take (k + 1))) c = (hitsQ (masks (f.take k)) c && decide (mask (f.getD k []) &&& c ≠ 0)) := by
  rw [masks_step f k h]; unfold hitsQ; rw [List.all_append]; simp
theorem hits_take {f : List (List Int)} {c k : Nat} (h : hitsQ (masks (f.take k)) c = false) : hitsQ (masks f) c = false := by
  cases hq : hitsQ (masks f) c
  · rfl
  · exfalso
    unfold hitsQ masks at *
    rw [List.all_eq_true] at hq
    have : ((f.take k).map mask).all (fun x => decide (x &&& c ≠ 0)) = true := by
      rw [List.all_eq_true]
      intro x hx
      obtain ⟨s, hs, rfl⟩ := List.mem_map.1 hx
      exact hq _ (List.mem_map_of_mem (List.mem_of_mem_take hs))
    rw [this] at h; cases h

set_option maxHeartbeats 1000000 in
theorem l3Hits_is {a : Option Addr} {n cp : Nat} {f : List (List Int)} {b : Option Addr} {m cq c : Nat} {w : World} {q : Bool} (h : Fam w a n f) (hs : Ints w b m (mem c)) (hc : c < 64) (hv : ∀ s ∈ f, valid s = true) (hq : hitsQ (masks f) c = q) :
    Calls Try.prog 59 #[.slice a n cp, .slice b m cq] w fun e w' => e = .returned (.bool q) ∧ Ext none w w' := by
  have hm := h.max
  have H := Lib.hid h
  have HS := Lib.hid hs
  have HV := Lib.hid hv
  have HQ := Lib.hid hq
  have hl := Lib.hid h.len
  clear h hs hv hq
  go_enter Try.func59, Try.ntmps59
  go_wp2_with fail
  go_loopw [5] (fun i wr => ∃ k : Nat, k ≤ n ∧ i = .int .i64 k ∧ hitsQ (masks (f.take k)) c = true ∧ Ext none w wr)
    (fun i _ => n - (intOf i).toNat)
  case atStart => exact ⟨0, by omega, rfl, rfl, Ext.refl _ _⟩
  case round =>
    obtain ⟨k, hk, rfl, ht, he⟩ := hrel
    have HT := Lib.hid ht
    clear ht
    by_cases hlt : k < n
    · have hltI : (k : Int) < (n : Int) := by omega
      have hkl : k < f.length := by rw [hl.out]; exact hlt
      obtain ⟨b1, off, a2, n2, c2, rfl, hc1, hi⟩ := (H.out.ext he).cell hlt
      have hval := HV.out _ (getD_mem hkl)
      have hn2 : n2 ≤ 6 := by rw [← hi.len]; exact valid_len hval
      have hst := Lib.hid (hits_step f c k hkl)
      have hlen := Lib.hid (show decide (mask (f.getD k []) &&& c ≠ 0) = decide (0 < (intB (f.getD k []) (mem c)).length) from by
        rw [intB_valid hval (mem_valid hc), mask_mem hc, mem_pos (and_lt (mask_lt hval))])
      go_wp2_with fail
      refine (l1Intersect_any hi (HS.out.ext he) (by omega)).mono ?_; rintro e w2 ⟨a3, n3, c3, rfl, o3, e3⟩
      have hn3 := Lib.hid o3.ints.len
      have he2 := Lib.hid (he.trans e3)
      clear hi o3 e3 he hval
      by_cases h0 : n3 = 0
      · subst h0
        have hno := Lib.hid (show q = false from by
          rw [← HQ.out]; refine hits_take (k := k + 1) ?_
          rw [hst.out, hlen.out, hn3.out, Bool.and_eq_false_iff]; exact .inr rfl)
        go_wp2_with fail
        go_ret
        exact ⟨retB hno.out, he2.out⟩
      · have hne : ((n3 : Int) == 0) = false := by rw [beq_eq_false_iff_ne]; omega
        have hnx := Lib.hid (show hitsQ (masks (f.take (k + 1))) c = true from by
          rw [hst.out, HT.out, hlen.out, hn3.out, Bool.true_and, decide_eq_true_eq]; omega)
        go_wp2_with fail
        go_roundw
        case rel => exact ⟨k + 1, by omega, by go_num, hnx.out, he2.out⟩
        case measure => simp [intOf]; omega
    · obtain rfl : k = n := by omega
      have hyes := Lib.hid (show q = true from by
        rw [← HQ.out]; have := HT.out; rwa [List.take_of_length_le (by rw [hl.out]; exact Nat.le_refl _)] at this)
      go_wp2_with fail
      go_ret
      exact ⟨retB hyes.out, he⟩

set_option maxHeartbeats 4000000 in
theorem sFamilyTransversals_any {a : Option Addr} {n cp : Nat} {f : List (List Int)} {w : World} (h : Fam w a n f) :
    Calls Try.prog 49 #[.slice a n cp] w (RFB w (transL f) (okT f)) := by
  have hl := h.len
  cases hv : famB f
  · have hno := Lib.hid (show okT f = false from by unfold okT; rw [hv]; rfl)
    have hno2 := Lib.hid (transL_no hno.out)
    go_enter Try.func49, Try.ntmps49
    go_wp2_with fail
    refine (sFamilyValid_is h hv).mono ?_; rintro e w_ ⟨rfl, d_⟩
    go_wp2_with fail
    go_ret2
    exact ⟨_, _, _, by rw [hno.out]; rfl, by rw [hno2.out]; exact (OwnF.made w_ _).mono (d_.ext (r := none)).size (Nat.le_refl _), (d_.ext (r := none)).alloc _⟩
  by_cases h0 : n = 0
  · subst h0
    have hno := Lib.hid (show okT f = false from by rw [okT_len hv, decide_eq_false_iff_not]; omega)
    have hno2 := Lib.hid (transL_no hno.out)
    go_enter Try.func49, Try.ntmps49
    go_wp2_with fail
    refine (sFamilyValid_is h hv).mono ?_; rintro e w_ ⟨rfl, d_⟩
    go_wp2_with fail
    go_ret2
    exact ⟨_, _, _, by rw [hno.out]; rfl, by rw [hno2.out]; exact (OwnF.made w_ _).mono (d_.ext (r := none)).size (Nat.le_refl _), (d_.ext (r := none)).alloc _⟩
  · have hne : ((n : Int) == 0) = false := by rw [beq_eq_false_iff_ne]; omega
    have hyes := Lib.hid (show okT f = true from by rw [okT_len hv, decide_eq_true_eq]; omega)
    have hfin := Lib.hid (show minL (famL (fltrTo (hitsQ (masks f)) 64)) = transL f from by rw [minL_fltr, transL_yes hyes.out])
    have hval := Lib.hid (fam_valid hv)
    have H := Lib.hid h
    clear hl
    go_enter Try.func49, Try.ntmps49
    go_wp2_with fail
    refine (sFamilyValid_is h hv).mono ?_; rintro e w0 ⟨rfl, d0⟩
    have hm0 := (OwnF.made w0 w.heap.size).mono (d0.ext (r := none)).size (Nat.le_refl _)
    have he0 := (d0.ext (r := none)).alloc (.cells #[] 26)
    clear h d0
    go_wp2_with fail
    go_loopw [4, 5] (fun q i wr => ∃ (k : Nat) (a2 : Option Addr) (n2 c2 : Nat), k ≤ 64 ∧ i = .int .i64 k ∧ q = .slice a2 n2 c2 ∧ OwnF wr w.heap.size w.heap.size a2 n2 c2 (famL (fltrTo (hitsQ (masks f)) k)) ∧ Ext none w wr)
      (fun _ i _ => 64 - (intOf i).toNat)
    case atStart => exact ⟨0, _, _, _, by omega, rfl, rfl, hm0, he0⟩
    case round =>
      obtain ⟨k, a2, n2, c2, hk, rfl, rfl, ho, he⟩ := hrel
      by_cases hlt : k < 64
      · have hltI : (k : Int) < 64 := by omega
        have hn2 : n2 ≤ 64 := by rw [← ho.len, famL_len]; exact Nat.le_trans (fltrTo_len _ k) hk
        have hst := Lib.hid (fltrTo_succ (hitsQ (masks f)) k)
        go_wp2_with fail
        refine (l1Masks_any).mono ?_; rintro e w_ ⟨rfl, rfl⟩
        go_wp2_with fail
        refine (l1OfMask_any hlt).mono ?_; rintro e w1 ⟨a3, n3, c3, rfl, o3, e3⟩
        have ho1 := ho.ext0 e3
        have i3 := o3.ints
        have he1 := Lib.hid (he.trans e3)
        clear ho o3 e3 he
        cases hq : hitsQ (masks f) k
        · go_wp2_with fail
          refine (l3Hits_is (H.out.ext he1.out) i3 hlt hval.out hq).mono ?_; rintro e w4 ⟨rfl, e4⟩
          go_wp2_with fail
          go_roundw
          case rel => exact ⟨k + 1, a2, n2, c2, by omega, by go_num, rfl, by rw [hst.out, hq]; exact ho1.ext0 e4, he1.out.trans e4⟩
          case measure => simp [intOf]; omega
        · go_wp2_with fail
          refine (l3Hits_is (H.out.ext he1.out) i3 hlt hval.out hq).mono ?_; rintro e w4 ⟨rfl, e4⟩
          have he4 := Lib.hid (he1.out.trans e4)
          go_wp2_with fail
          refine (l1OfMask_any hlt).mono ?_; rintro e w5 ⟨a5, n5, c5, rfl, o5, e5⟩
          have ho2 := (ho1.ext0 e4).ext0 e5
          have hr2 := o5.row (r := (Value.slice a2 n2 c2).ownBlock) (R := w.heap.size) (fun j hj => (ho1.ext0 e4).blockLt j hj) he4.out.size
          have he5 := Lib.hid (he4.out.trans e5)
          clear o5 e5 ho1 e4
          go_wp2_with (at_builtin; refine app_row _ rfl _ _ rfl w.heap.size w.heap.size a2 n2 c2 _ ho2 a5 n5 c5 _ hr2 rfl rfl (by omega) he5.out.size ?_; intro g c' w9 ho9 hg9)
          go_roundw
          case rel => exact ⟨k + 1, _, _, _, by omega, by go_num, rfl, by rw [hst.out, hq, if_pos rfl, famL_snoc]; exact ho9, he5.out.grown hg9 (fun q hq => .inl (ho2.block q hq))⟩
          case measure => simp [intOf]; omega
      · obtain rfl : k = 64 := by omega
        have hF := ho.fam
        go_wp2_with fail
        refine (l1Masks_any).mono ?_; rintro e w_ ⟨rfl, rfl⟩
        go_wp2_with fail
        refine (l3Minimize_any hF).mono ?_; rintro e w7 ⟨a7, n7, c7, rfl, o7, e7⟩
        rw [hfin.out] at o7
        go_wp2_with fail
        go_ret2
        exact ⟨a7, n7, c7, by rw [hyes.out]; rfl, o7.mono he.size he.size, he.trans e7⟩
end Go.Proofs.Ytnifgfnhcjhodaa
