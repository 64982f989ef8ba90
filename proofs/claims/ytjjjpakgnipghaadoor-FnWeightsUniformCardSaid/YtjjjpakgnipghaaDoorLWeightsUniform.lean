/- The walk of laws.FnWeightsUniform: it returns true. Condition: the arguments are slices of bytes. -/
import Derived.Test.YtjjjpakgnipghaaDoorK2
import Derived.Test.YtjjjpakgnipghaaDoorRD
import Derived.Test.YtjjjpakgnipghaaDoorRJ
import Derived.Test.YtjjjpakgnipghaaDoorCG
import Derived.Test.YtjjjpakgnipghaaDoorF8
namespace Go.Proofs.YtjjjpakgnipghaaDoor
open Go.RowKit
set_option linter.unusedVariables false

theorem take63_len {n : Nat} (h : n ≤ 6) : ((mem 63).take n).length = n := by
  rw [List.length_take]; show min n 6 = n; omega
set_option maxRecDepth 20000 in
set_option maxHeartbeats 2000000 in
theorem FnWeightsUniform_walk {a : Option Addr} {n c : Nat} {a' : Option Addr} {n' c' : Nat} {w : World} (h : Bytes w a n c) (h' : Bytes w a' n' c') :
    Calls Tryd.prog 5 #[.slice a n c, .slice a' n' c'] w fun e w' => e = .returned (.bool true) ∧ Ext none w w' := by
  clear h'
  rcases Nat.lt_or_ge 1048576 n with hl | hl
  · have hlI : (1048576 : Int) < (n : Int) := by omega
    go_enter Tryd.func5, Tryd.ntmps5
    go_wp2_with fail
    go_ret
    exact ⟨rfl, Ext.refl _ _⟩
  have hlI : ¬ (1048576 : Int) < (n : Int) := by omega
  rcases Nat.lt_or_ge 1048576 n' with hl' | hl'
  · have hlI' : (1048576 : Int) < (n' : Int) := by omega
    go_enter Tryd.func5, Tryd.ntmps5
    go_wp2_with fail
    go_ret
    exact ⟨rfl, Ext.refl _ _⟩
  have hlI' : ¬ (1048576 : Int) < (n' : Int) := by omega
  go_enter Tryd.func5, Tryd.ntmps5
  go_wp2_with fail
  refine (DrawWeightsFamily_any h).mono ?_; rintro e w_ ⟨a1, n1, c1, ws, need, rfl, hi, hq0, hq14, he⟩
  clear h
  cases hk : okW ws need
  · skip
    go_wp2_with fail
    refine (sWeightsFamily_v hi hk).mono ?_; rintro e w_u ⟨a_u, n_u, c_u, rfl, f_u, e_u⟩
    replace hi := hi.ext e_u
    replace he := he.trans e_u
    clear e_u
    go_wp2_with fail
    refine (WeightsFamily_v hi hk).mono ?_; rintro e w_v ⟨a_v, n_v, c_v, rfl, f_v, e_v⟩
    replace hi := hi.ext e_v
    replace f_u := f_u.ext e_v
    replace he := he.trans e_v
    clear e_v
    go_wp2_with fail
    refine (sameSets_v f_v f_u).mono ?_; rintro e w_ ⟨rfl, d_⟩
    replace f_u := f_u.ext d_.ext
    replace f_v := f_v.ext d_.ext
    replace he := he.trans d_.ext
    clear d_
    go_wp2_with fail
    refine (sameSets_v f_v f_u).mono ?_; rintro e w_ ⟨rfl, d_⟩
    replace he := he.trans d_.ext
    clear d_
    go_wp2_with fail
    go_ret
    exact ⟨rfl, he⟩
  · have hne := wFamL_ne hk
    go_wp2_with fail
    refine (sWeightsFamily_v hi hk).mono ?_; rintro e w_u ⟨a_u, n_u, c_u, rfl, f_u, e_u⟩
    replace hi := hi.ext e_u
    replace he := he.trans e_u
    clear e_u
    go_wp2_with fail
    refine (WeightsFamily_v hi hk).mono ?_; rintro e w_v ⟨a_v, n_v, c_v, rfl, f_v, e_v⟩
    replace hi := hi.ext e_v
    replace f_u := f_u.ext e_v
    replace he := he.trans e_v
    clear e_v
    go_wp2_with fail
    refine (sameSets_v f_v f_u).mono ?_; rintro e w_ ⟨rfl, d_⟩
    replace f_v := f_v.ext d_.ext
    replace he := he.trans d_.ext
    clear d_
    have hpos : 0 < n_v := by
      have h1 := f_v.len
      have h2 : (wFamL ws need).length ≠ 0 := fun e => hne (List.eq_nil_of_length_eq_zero e)
      omega
    have hposI : (0 : Int) < (n_v : Int) := by omega
    clear hne f_u f_v hi hk hq0 hq14
    obtain ⟨j, hj⟩ : ∃ j, j = n' % 6 := ⟨_, rfl⟩
    obtain ⟨m, hm⟩ : ∃ m, m = n' / 6 := ⟨_, rfl⟩
    obtain ⟨N, hN⟩ : ∃ N, N = 1 + j := ⟨_, rfl⟩
    obtain ⟨r, hr⟩ : ∃ r, r = m % N := ⟨_, rfl⟩
    obtain ⟨K, hK⟩ : ∃ K, K = 1 + r := ⟨_, rfl⟩
    have hj6 : j < 6 := by rw [hj]; exact Nat.mod_lt _ (by omega)
    have hrN : r < N := by rw [hr]; exact Nat.mod_lt _ (by omega)
    have e1 : (n' : Int) % 6 = (j : Int) := by omega
    have e2 : (n' : Int) / 6 = (m : Int) := by omega
    have e3 : (1 : Int) + (j : Int) = (N : Int) := by omega
    have e4 : Int.tmod (m : Int) (N : Int) = (r : Int) := by rw [hr]; rfl
    have e5 : (1 : Int) + (r : Int) = (K : Int) := by omega
    have hN0 : ((N : Int) == 0) = false := by rw [beq_eq_false_iff_ne]; omega
    have hN1 : ¬ (N : Int) = 0 := by omega
    have hmle : m ≤ 200000 := by omega
    have HU := Lib.hid (uni_fam (n := N) (k := K) (by omega) (by omega) (by omega) (by omega))
    have hNle : N ≤ 6 := by omega
    have hK0 : K ≤ 6 := by omega
    clear hj hm hN hr hK
    go_wp2_with fail
    obtain ⟨wl, hwl⟩ : ∃ x, x = w_ := ⟨_, rfl⟩
    rw [← hwl] at he ⊢
    rw [e1]
    clear hwl e1 e2 e3 e4 e5
    go_loopw [13, 14] (fun v i wr => ∃ (q : Nat) (a2 : Option Addr) (c2 : Nat), q ≤ N ∧ i = .int .i64 (q : Nat) ∧ v = .slice a2 q c2 ∧ OwnI wr wl.heap.size a2 q c2 (List.replicate q (1 : Int)) ∧ Ext none wl wr)
      (fun _ i _ => N - (intOf i).toNat)
    case atStart => exact ⟨0, _, _, by omega, rfl, rfl, OwnI.made wl, (Ext.refl _ _).alloc _⟩
    case round =>
      obtain ⟨q, a2, c2, hq, rfl, rfl, ho, hx⟩ := hrel
      by_cases hlt : q < N
      · have hltI : (q : Int) < (N : Int) := by omega
        have hsz := hx.size
        have hst := Lib.hid (show List.replicate (q + 1) (1 : Int) = List.replicate q 1 ++ [1] from by rw [List.replicate_succ'])
        go_wp2_with (at_builtin; refine app_int _ rfl _ _ rfl wl.heap.size a2 q c2 _ ho 1 rfl rfl (by omega) hsz ?_; intro g c' w1 ho1 hg1)
        go_roundw
        case rel => exact ⟨q + 1, _, _, by omega, by go_num, rfl, by rw [hst.out]; exact ho1, hx.grown hg1 (fun j hj => .inl (ho.block j hj))⟩
        case measure => simp [intOf]; omega
      · obtain rfl : q = N := by omega
        have HX := Lib.hid (he.trans hx)
        have hint := Lib.hid ho.ints
        clear he hx ho
        go_wp2_with fail
        refine (WeightsFamily_v hint.out HU.out.1).mono ?_; rintro e w4 ⟨a4, n4, c4, rfl, f4, x4⟩
        go_wp2_with fail
        refine allMembers_any.mono ?_; rintro e w5 ⟨a5, n5, c5, rfl, o5, x5⟩
        have hn5 : n5 = 6 := by have := o5.len; rw [show (mem 63).length = 6 from rfl] at this; exact this.symm
        subst hn5
        have hcap := o5.cap.1
        have i_m : Ints w5 a5 q ((mem 63).take q) := by
          obtain ⟨b, off, rfl, _⟩ := o5.ints.cell (k := 0) (by omega)
          have := o5.ints.part (i := 0) (m := q) (a := some ⟨b, off, none⟩) (by omega) (.inl rfl)
          rwa [List.drop_zero] at this
        have htc : q ≤ c5 := by omega
        have htcI : (q : Int) ≤ (c5 : Int) := by omega
        have F4 := Lib.hid (f4.ext x5)
        have IM := Lib.hid i_m
        have hX5 := Lib.hid (HX.out.trans (x4.trans x5))
        obtain ⟨D, hD⟩ : ∃ D, D = bs (thrL (K : Int) ((mem 63).take q)) := ⟨_, rfl⟩
        have hb : byt D = thrL (K : Int) ((mem 63).take q) := by rw [hD, byt_bs]
        have hD9 : D.size ≤ 9223372036854775807 := by rw [hD, bs_size, thr_yes HU.out.2.1]; have := thr_len HU.out.2.1; omega
        have hok := Lib.hid (show okE (byt D) = true from by rw [hb, thr_ok HU.out.2.1])
        have heq := Lib.hid (show sameF (wFamL (List.replicate q (1 : Int)) (K : Int)) (ofExprL (byt D)) = true from by rw [hb, ← HU.out.2.2]; exact sameF_refl _)
        have HD := Lib.hid hD
        clear o5 f4 x4 x5 i_m hD hb
        go_wp2_with fail
        refine (ExprThreshold_is IM.out HU.out.2.1).mono ?_; rintro e w6 ⟨rfl, x6⟩
        rw [← HD.out]
        go_wp2_with fail
        refine (FamilyOfExpr_v hD9 hok.out).mono ?_; rintro e w7 ⟨a7, n7, c7, rfl, f7, x7⟩
        go_wp2_with fail
        refine (sameSets_is ((F4.out.ext x6).ext x7).1 f7.1 heq.out).mono ?_; rintro e w8 ⟨rfl, d8⟩
        go_wp2_with fail
        go_ret
        exact ⟨rfl, hX5.out.trans (x6.trans (x7.trans d8.ext))⟩
end Go.Proofs.YtjjjpakgnipghaaDoor
