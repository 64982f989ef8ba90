/- The measures of package spec: l12Fits, l12First, Availability, Resilience. Conditions: each lemma's own. -/
import Derived.Test.YtjjjpakgnipghaaSF
import Derived.Test.YtjjjpakgnipghaaPQ
namespace Go.Proofs.Ytjjjpakgnipghaa
open Go.RowKit
set_option linter.unusedVariables false

theorem retI {a b : Int} (h : a = b) : Ending.returned (Value.int .i64 b) = Ending.returned (Value.int .i64 a) := by rw [h]
theorem first_step {k : Nat} (h : k < 6) : mem (firstM (k + 1)) = mem (firstM k) ++ [((k : Int) + 1)] := by
  have key : ∀ k < 6, mem (firstM (k + 1)) = mem (firstM k) ++ [((k : Int) + 1)] := by decide +kernel
  exact key k h
set_option maxHeartbeats 1000000 in
theorem l12First_any {n : Nat} {w : World} (hn : n ≤ 6) :
    Calls Try.prog 72 #[.int .i64 (n : Nat)] w (RI w none (mem (firstM n))) := by
  go_enter Try.func72, Try.ntmps72
  go_wp2_with fail
  go_loopw [3, 4] (fun v i wr => ∃ (k : Nat) (a : Option Addr) (m cp : Nat), k ≤ n ∧ i = .int .i64 ((k : Int) + 1) ∧ v = .slice a m cp ∧ OwnI wr w.heap.size a m cp (mem (firstM k)) ∧ Ext none w wr)
    (fun _ i _ => n + 1 - (intOf i).toNat)
  case atStart => exact ⟨0, _, 0, 0, by omega, rfl, rfl, OwnI.made w, (Ext.refl _ _).alloc _⟩
  case round =>
    obtain ⟨k, a, m, cp, hk, rfl, rfl, ho, hx⟩ := hrel
    by_cases hlt : k < n
    · have hltI : (k : Int) + 1 ≤ (n : Int) := by omega
      have hm : m ≤ 6 := by rw [← ho.len]; exact mem_len
      have hst := Lib.hid (first_step (show k < 6 by omega))
      go_wp2_with (at_builtin; refine app_int _ rfl _ _ rfl w.heap.size a m cp _ ho _ rfl rfl (by omega) hx.size ?_; intro g c' w1 ho1 hg1)
      go_roundw
      case rel => exact ⟨k + 1, _, _, _, by omega, by go_num, rfl, by rw [hst.out]; exact ho1, hx.grown hg1 (fun j hj => .inl (ho.block j hj))⟩
      case measure => simp [intOf]; omega
    · obtain rfl : k = n := by omega
      have hltI : ¬ ((k : Int) + 1 ≤ (k : Int)) := by omega
      go_wp2_with fail
      go_ret
      exact ⟨a, m, cp, rfl, ho, hx⟩

theorem last_fit {x n : Nat} (hx : x < 64) (h0 : x ≠ 0) (hn : n ≤ 6) : decide ((mem x).getD ((mem x).length - 1) 0 ≤ (n : Int)) = sub x (firstM n) := by
  have key : ∀ x < 64, x ≠ 0 → ∀ n : Nat, n ≤ 6 → decide ((mem x).getD ((mem x).length - 1) 0 ≤ ((n : Nat) : Int)) = sub x (firstM n) := by decide +kernel
  exact key x hx h0 n hn
theorem fitF_step (f : List (List Int)) (n k : Nat) (h : k < f.length) : fitQ (masks (f.take (k + 1))) n = (fitQ (masks (f.take k)) n && sub (mask (f.getD k [])) (firstM n)) := by
  rw [masks_step f k h]; unfold fitQ; rw [List.all_append]; simp
theorem fitF_take {f : List (List Int)} {n k : Nat} (h : fitQ (masks (f.take k)) n = false) : fitQ (masks f) n = false := by
  cases hq : fitQ (masks f) n
  · rfl
  · exfalso
    unfold fitQ masks at *
    rw [List.all_eq_true] at hq
    have : ((f.take k).map mask).all (fun x => sub x (firstM n)) = true := by
      rw [List.all_eq_true]
      intro x hx
      obtain ⟨s, hs, rfl⟩ := List.mem_map.1 hx
      exact hq _ (List.mem_map_of_mem (List.mem_of_mem_take hs))
    rw [this] at h; cases h
theorem fam_nonzero {f : List (List Int)} (h : famB f = true) {k : Nat} (hk : k < f.length) : mask (f.getD k []) ≠ 0 :=
  ((fam_anti h).2 _ (List.mem_map_of_mem (getD_mem hk))).2

set_option maxRecDepth 20000 in
set_option maxHeartbeats 4000000 in
theorem l12Fits_is {a : Option Addr} {n cp : Nat} {f : List (List Int)} {m : Int} {w : World} {q : Bool} (h : Fam w a n f) (hq : okR f m = q) :
    Calls Try.prog 68 #[.slice a n cp, .int .i64 m] w fun e w' => e = .returned (.bool q) ∧ Dr w w' := by
  have hl := Lib.hid h.len
  cases hv : famB f
  · obtain rfl : q = false := by rw [← hq]; unfold okR okT; rw [hv]; rfl
    clear hq
    go_enter Try.func68, Try.ntmps68
    go_wp2_with fail
    refine (sFamilyValid_is h hv).mono ?_; rintro e w1 ⟨rfl, hd⟩
    go_wp2_with fail
    go_ret
    exact ⟨rfl, hd⟩
  · by_cases h0 : n = 0
    · obtain rfl : q = false := by rw [← hq]; unfold okR; rw [okT_len hv, decide_eq_false (show ¬ 0 < f.length by rw [hl.out]; omega)]; rfl
      clear hq
      subst h0
      go_enter Try.func68, Try.ntmps68
      go_wp2_with fail
      refine (sFamilyValid_is h hv).mono ?_; rintro e w1 ⟨rfl, hd⟩
      go_wp2_with fail
      go_ret
      exact ⟨rfl, hd⟩
    · have hne : ((n : Int) == 0) = false := by rw [beq_eq_false_iff_ne]; omega
      have hT : okT f = true := by rw [okT_len hv, decide_eq_true_eq, hl.out]; omega
      have hQ := Lib.hid (show (okN m && fitQ (masks f) m.toNat) = q from by rw [← hq]; unfold okR; rw [hT]; rfl)
      clear hq hT
      cases hN : inB m 1 6
      · obtain rfl : q = false := by rw [← hQ.out, show okN m = inB m 1 6 from rfl, hN]; rfl
        clear hQ
        go_enter Try.func68, Try.ntmps68
        go_wp2_with fail
        refine (sFamilyValid_is h hv).mono ?_; rintro e w1 ⟨rfl, hd⟩
        go_wp2_with fail
        refine (l6In_is hN).mono ?_; rintro e w_ ⟨rfl, rfl⟩
        go_wp2_with fail
        go_ret
        exact ⟨rfl, hd⟩
      · have hNb : 1 ≤ m ∧ m ≤ 6 := by unfold inB at hN; simpa using hN
        obtain ⟨t, rfl⟩ := Int.eq_ofNat_of_zero_le (show 0 ≤ m by omega)
        have ht6 : t ≤ 6 := by omega
        have hQk := Lib.hid (show fitQ (masks f) t = q from by
          have := hQ.out; rw [show okN (t : Int) = inB (t : Int) 1 6 from rfl, hN] at this; simpa using this)
        have hval := Lib.hid (fam_valid hv)
        have hnz := Lib.hid (fun k (hk : k < f.length) => fam_nonzero hv hk)
        have H := Lib.hid h
        have hmax := h.max
        clear hQ
        go_enter Try.func68, Try.ntmps68
        go_wp2_with fail
        refine (sFamilyValid_is h hv).mono ?_; rintro e w1 ⟨rfl, hd⟩
        go_wp2_with fail
        refine (l6In_is hN).mono ?_; rintro e w_ ⟨rfl, rfl⟩
        clear h hv hN
        go_wp2_with fail
        go_loopw [5] (fun i wr => ∃ k : Nat, k ≤ n ∧ i = .int .i64 (k : Nat) ∧ fitQ (masks (f.take k)) t = true ∧ Dr w wr)
          (fun i _ => n - (intOf i).toNat)
        case atStart => exact ⟨0, by omega, rfl, rfl, hd⟩
        case round =>
          obtain ⟨k, hk, rfl, hft, hdr⟩ := hrel
          have HFT := Lib.hid hft
          clear hft
          by_cases hlt : k < n
          · have hltI : (k : Int) < (n : Int) := by omega
            have hkl : k < f.length := by rw [hl.out]; exact hlt
            obtain ⟨b, off, a2, n2, c2, rfl, hc, hi⟩ := (H.out.ext hdr.ext).cell hlt
            have hvk := hval.out _ (getD_mem hkl)
            have hzk := hnz.out k hkl
            have hmk := mask_lt hvk
            have hst := Lib.hid (fitF_step f t k hkl)
            have hlf := Lib.hid (last_fit hmk hzk ht6)
            have hn26 : n2 ≤ 6 := by rw [← hi.len]; exact valid_len hvk
            obtain ⟨r, hr⟩ : ∃ r, n2 = r + 1 := ⟨n2 - 1, by
              have : n2 ≠ 0 := fun e => hzk ((len_mask hi.len hvk).2 e)
              omega⟩
            subst hr
            obtain ⟨b2, off2, rfl, hc2⟩ := hi.cell (k := r) (by omega)
            have hlen := Lib.hid hi.len
            obtain ⟨z, hz⟩ : ∃ z, z = (f.getD k []).getD r 0 := ⟨_, rfl⟩
            rw [← hz] at hc2
            have hz2 := Lib.hid (show decide (z ≤ (t : Int)) = sub (mask (f.getD k [])) (firstM t) from by
              rw [← hlf.out, mem_mask hvk, hlen.out, hz]; rfl)
            have hr0 : (0 : Int) ≤ (r : Int) := by omega
            clear hi hz hvk hzk
            by_cases hzt : (t : Int) < z
            · obtain rfl : q = false := by
                rw [← hQk.out]
                refine fitF_take (k := k + 1) ?_
                rw [hst.out, ← hz2.out, decide_eq_false (by omega), Bool.and_false]
              go_wp2_with fail
              go_quiet (fail)
              go_wp2_with fail
              go_ret
              exact ⟨rfl, hdr.drewN _⟩
            · have hnx := Lib.hid (show fitQ (masks (f.take (k + 1))) t = true from by rw [hst.out, HFT.out, ← hz2.out, decide_eq_true (by omega)]; rfl)
              go_wp2_with fail
              go_quiet (fail)
              go_wp2_with fail
              go_roundw
              case rel => exact ⟨k + 1, by omega, by go_num, hnx.out, hdr.drewN _⟩
              case measure => simp [intOf]; omega
          · obtain rfl : k = n := by omega
            obtain rfl : q = true := by
              rw [← hQk.out]; have := HFT.out; rwa [List.take_of_length_le (by rw [hl.out]; exact Nat.le_refl _)] at this
            go_wp2_with fail
            go_ret
            exact ⟨rfl, hdr⟩

theorem hasB_up' {f : List (List Int)} (h : okT f = true) {c : Nat} (hc : c < 64) : hasB f (mem c) = up (masks f) c := hasB_mem (fam_valid (okT_fam h)) hc
theorem subB_mem {x y : Nat} (hx : x < 64) (hy : y < 64) : subB (mem x) (mem y) = sub x y := by rw [subB_valid (mem_valid hx) (mem_valid hy), mask_mem hx, mask_mem hy]

set_option maxHeartbeats 4000000 in
theorem sAvailability_any {a : Option Addr} {n cp : Nat} {f : List (List Int)} {m : Int} {w : World} (h : Fam w a n f) :
    Calls Try.prog 26 #[.slice a n cp, .int .i64 m] w fun e w' => e = .returned (.int .i64 (availL f m)) ∧ Ext none w w' := by
  cases ho : okR f m
  · have hno := Lib.hid (availL_no ho)
    go_enter Try.func26, Try.ntmps26
    go_wp2_with fail
    refine (l12Fits_is h ho).mono ?_; rintro e w1 ⟨rfl, hd⟩
    go_wp2_with fail
    go_ret
    exact ⟨retI hno.out, hd.ext⟩
  · have hN := okR_N ho
    obtain ⟨t, rfl⟩ := Int.eq_ofNat_of_zero_le (show 0 ≤ m by omega)
    have ht6 : t ≤ 6 := by omega
    have hF := firstM_lt ht6
    have hyes := Lib.hid (show availL f (t : Int) = (availTo (masks f) t 64 : Int) from by rw [availL_yes ho]; rfl)
    have hup := Lib.hid (fun c (hc : c < 64) => hasB_up' (okR_T ho) hc)
    have H := Lib.hid h
    go_enter Try.func26, Try.ntmps26
    go_wp2_with fail
    refine (l12Fits_is h ho).mono ?_; rintro e w1 ⟨rfl, hd⟩
    clear h ho hN
    go_wp2_with fail
    go_loopw [5, 6] (fun s i wr => ∃ k : Nat, k ≤ 64 ∧ i = .int .i64 (k : Nat) ∧ s = .int .i64 (availTo (masks f) t k : Nat) ∧ Ext none w wr)
      (fun _ i _ => 64 - (intOf i).toNat)
    case atStart => exact ⟨0, by omega, rfl, rfl, hd.ext⟩
    case round =>
      obtain ⟨k, hk, rfl, rfl, he⟩ := hrel
      by_cases hlt : k < 64
      · have hltI : (k : Int) < 64 := by omega
        have hle := availTo_le (masks f) t k
        have hst := Lib.hid (availTo_succ (masks f) t k)
        go_wp2_with fail
        refine (l1Masks_any).mono ?_; rintro e w_ ⟨rfl, rfl⟩
        go_wp2_with fail
        refine (l1OfMask_any hlt).mono ?_; rintro e w2 ⟨a2, n2, c2, rfl, o2, e2⟩
        go_wp2_with fail
        refine (l12First_any ht6).mono ?_; rintro e w3 ⟨a3, n3, c3, rfl, o3, e3⟩
        have i2 := o2.ints.ext e3
        have i3 := o3.ints
        have he3 := Lib.hid ((he.trans e2).trans e3)
        clear o2 o3 e2 e3 he
        obtain ⟨u, hu⟩ : ∃ u, u = availTo (masks f) t k := ⟨_, rfl⟩
        rw [← hu] at hle hst ⊢
        clear hu
        cases hs : sub k (firstM t)
        · have hno := Lib.hid (show hasIn (masks f) t k = false from by unfold hasIn; rw [hs]; rfl)
          go_wp2_with fail
          refine (l1Subset_is i2 i3 ((subB_mem hlt hF).trans hs)).mono ?_; rintro e w_ ⟨rfl, rfl⟩
          go_wp2_with fail
          go_roundw
          case rel => exact ⟨k + 1, by omega, by go_num, by rw [hst.out, hno.out]; try rfl, he3.out⟩
          case measure => simp [intOf]; omega
        · cases hb : up (masks f) k
          · have hno := Lib.hid (show hasIn (masks f) t k = false from by unfold hasIn; rw [hs, hb]; rfl)
            go_wp2_with fail
            refine (l1Subset_is i2 i3 ((subB_mem hlt hF).trans hs)).mono ?_; rintro e w_ ⟨rfl, rfl⟩
            go_wp2_with fail
            refine (l3Has_is (H.out.ext he3.out) i2 ((hup.out k hlt).trans hb)).mono ?_; rintro e w_ ⟨rfl, rfl⟩
            go_wp2_with fail
            go_roundw
            case rel => exact ⟨k + 1, by omega, by go_num, by rw [hst.out, hno.out]; try rfl, he3.out⟩
            case measure => simp [intOf]; omega
          · have hno := Lib.hid (show hasIn (masks f) t k = true from by unfold hasIn; rw [hs, hb]; rfl)
            go_wp2_with fail
            refine (l1Subset_is i2 i3 ((subB_mem hlt hF).trans hs)).mono ?_; rintro e w_ ⟨rfl, rfl⟩
            go_wp2_with fail
            refine (l3Has_is (H.out.ext he3.out) i2 ((hup.out k hlt).trans hb)).mono ?_; rintro e w_ ⟨rfl, rfl⟩
            go_wp2_with fail
            go_roundw
            case rel => exact ⟨k + 1, by omega, by go_num, by rw [hst.out, hno.out, if_pos rfl]; try go_num, he3.out⟩
            case measure => simp [intOf]; omega
      · obtain rfl : k = 64 := by omega
        go_wp2_with fail
        refine (l1Masks_any).mono ?_; rintro e w_ ⟨rfl, rfl⟩
        go_wp2_with fail
        go_ret
        exact ⟨retI hyes.out, he⟩

theorem worst_step (q : List Nat) (n k : Nat) : worstTo q n (k + 1) = if bad q n k then min (worstTo q n k) (many k) else worstTo q n k := rfl
end Go.Proofs.Ytjjjpakgnipghaa
