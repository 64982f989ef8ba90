/- The walk of laws.FnWeightsScale: it returns true. Condition: the argument is a slice of bytes. -/
import Derived.Test.YtjciinaboooeoaaRD
import Derived.Test.YtjciinaboooeoaaCG
import Derived.Test.YtjciinaboooeoaaD3
import Derived.Test.YtjciinaboooeoaaC4
import Derived.Test.YtjciinaboooeoaaF8
import Derived.Test.YtjciinaboooeoaaRV
namespace Go.Proofs.Ytjciinaboooeoaa
open Go.RowKit
set_option linter.unusedVariables false

set_option maxHeartbeats 2000000 in
theorem FnWeightsScale_walk {a : Option Addr} {n c : Nat} {w : World} (h : Bytes w a n c) :
    Calls Try.prog 10 #[.slice a n c] w fun e w' => e = .returned (.bool true) ∧ Ext none w w' := by
  rcases Nat.lt_or_ge 1048576 n with hl | hl
  · have hlI : (1048576 : Int) < (n : Int) := by omega
    go_enter Try.func10, Try.ntmps10
    go_wp2_with fail
    go_ret
    exact ⟨rfl, Ext.refl _ _⟩
  have hlI : ¬ (1048576 : Int) < (n : Int) := by omega
  go_enter Try.func10, Try.ntmps10
  go_wp2_with fail
  refine (DrawWeightsFamily_any h).mono ?_; rintro e w_ ⟨a1, n1, c1, ws, need, rfl, hi, hq0, hq14, he⟩
  clear h
  cases hk : okW ws need
  · skip
    go_wp2_with fail
    refine (sWeightsFamily_v hi hk).mono ?_; rintro e w_u ⟨a_u, n_u, c_u, rfl, f_u, e_u⟩
    replace hi := hi.ext e_u
    replace he := he.trans e_u
    clear e_u
    go_wp2_with fail
    refine (WeightsFamily_v hi hk).mono ?_; rintro e w_v ⟨a_v, n_v, c_v, rfl, f_v, e_v⟩
    replace hi := hi.ext e_v
    replace f_u := f_u.ext e_v
    replace he := he.trans e_v
    clear e_v
    go_wp2_with fail
    refine (sameSets_v f_v f_u).mono ?_; rintro e w_ ⟨rfl, d_⟩
    replace f_u := f_u.ext d_.ext
    replace f_v := f_v.ext d_.ext
    replace he := he.trans d_.ext
    clear d_
    go_wp2_with fail
    refine (sameSets_v f_v f_u).mono ?_; rintro e w_ ⟨rfl, d_⟩
    replace he := he.trans d_.ext
    clear d_
    go_wp2_with fail
    go_ret
    exact ⟨rfl, he⟩
  · have hw := (okW_parts hk).1
    have hall := Lib.hid (fun j => allV_get (valW_all hw) j)
    have hlen := Lib.hid hi.len
    have hn6 : n1 ≤ 6 := by rw [← hi.len]; exact (valW_len hw).2
    have hsok := Lib.hid (scale_ok hk)
    have hseq := Lib.hid (fun h2 => scale_eq hk h2)
    go_wp2_with fail
    refine (sWeightsFamily_v hi hk).mono ?_; rintro e w_u ⟨a_u, n_u, c_u, rfl, f_u, e_u⟩
    replace hi := hi.ext e_u
    replace he := he.trans e_u
    clear e_u
    go_wp2_with fail
    refine (WeightsFamily_v hi hk).mono ?_; rintro e w_v ⟨a_v, n_v, c_v, rfl, f_v, e_v⟩
    replace hi := hi.ext e_v
    replace f_u := f_u.ext e_v
    replace he := he.trans e_v
    clear e_v
    go_wp2_with fail
    refine (sameSets_v f_v f_u).mono ?_; rintro e w_ ⟨rfl, d_⟩
    replace hi := hi.ext d_.ext
    replace f_v := f_v.ext d_.ext
    replace he := he.trans d_.ext
    clear d_
    go_wp2_with fail
    obtain ⟨wl, hwl⟩ : ∃ x, x = w_ := ⟨_, rfl⟩
    rw [← hwl] at hi f_v he ⊢
    clear hwl
    have HI := Lib.hid hi
    have HFV := Lib.hid f_v
    clear hi f_v
    go_loopw [9, 10] (fun v i wr => ∃ (k : Nat) (a2 : Option Addr) (n2 c2 : Nat), k ≤ n1 ∧ n2 = k ∧ i = .int .i64 (k : Nat) ∧ v = .slice a2 n2 c2 ∧ OwnI wr wl.heap.size a2 n2 c2 (dbl (ws.take k)) ∧ Ext none wl wr)
      (fun _ i _ => n1 - (intOf i).toNat)
    case atStart => exact ⟨0, _, _, _, by omega, rfl, rfl, rfl, OwnI.made wl, (Ext.refl _ _).alloc _⟩
    case round =>
      obtain ⟨k, a2, n2, c2, hk2, hn2, rfl, rfl, ho, hx⟩ := hrel
      subst hn2
      by_cases hlt : n2 < n1
      · have hltI : (n2 : Int) < (n1 : Int) := by omega
        have hkl : n2 < ws.length := by rw [hlen.out]; exact hlt
        obtain ⟨b3, off3, rfl, hc3⟩ := (HI.out.ext hx).cell hlt
        have hst := Lib.hid (dbl_snoc ws n2 hkl)
        have hv := hall.out n2
        obtain ⟨v, hvv⟩ : ∃ v, v = ws.getD n2 0 := ⟨_, rfl⟩
        rw [← hvv] at hc3 hst hv
        clear hvv
        go_wp2_with (at_builtin; refine app_int _ rfl _ _ rfl wl.heap.size a2 n2 c2 _ ho _ rfl rfl (by omega) hx.size ?_; intro g c' w9 ho9 hg9)
        go_roundw
        case rel => exact ⟨n2 + 1, _, _, _, by omega, rfl, by go_num, rfl, by rw [hst.out]; exact ho9, hx.grown hg9 (fun j hj => .inl (ho.block j hj))⟩
        case measure => simp [intOf]; omega
      · obtain rfl : n2 = n1 := by omega
        have i_d : Ints wr a2 n2 (dbl ws) := by
          have := ho.ints; rwa [List.take_of_length_le (by rw [hlen.out]; exact Nat.le_refl _)] at this
        replace he := he.trans hx
        have f_v := HFV.out.ext hx
        clear ho hx
        obtain ⟨q, hq⟩ : ∃ q, valW (dbl ws) = q := ⟨_, rfl⟩
        have HK2 := Lib.hid (hsok.out.trans hq)
        have HQ := Lib.hid hq
        clear hq
        go_wp2_with fail
        refine (WeightsFamily_v i_d HK2.out).mono ?_; rintro e w_x ⟨a_x, n_x, c_x, rfl, f_x, e_x⟩
        replace i_d := i_d.ext e_x
        replace f_v := f_v.ext e_x
        replace he := he.trans e_x
        clear e_x
        go_wp2_with fail
        refine (WeightsValid_is i_d HQ.out).mono ?_; rintro e w_ ⟨rfl, rfl⟩
        cases q
        · skip
          go_wp2_with fail
          go_ret
          exact ⟨rfl, he⟩
        · rw [hseq.out HQ.out] at f_x
          go_wp2_with fail
          refine (sameSets_v f_x f_v).mono ?_; rintro e w_ ⟨rfl, d_⟩
          replace he := he.trans d_.ext
          clear d_
          go_wp2_with fail
          go_ret
          exact ⟨rfl, he⟩
end Go.Proofs.Ytjciinaboooeoaa
