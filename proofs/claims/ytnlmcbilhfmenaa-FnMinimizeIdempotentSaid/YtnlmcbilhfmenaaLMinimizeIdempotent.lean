/- The walk of laws.FnMinimizeIdempotent: it returns true. Condition: the argument is a slice of bytes. -/
import Derived.Test.YtnlmcbilhfmenaaCG
namespace Go.Proofs.Ytnlmcbilhfmenaa
open Go.RowKit
set_option linter.unusedVariables false

theorem backOf_step (f : List (List Int)) (j : Nat) : backOf f (j + 1) = backOf f j ++ [f.getD (f.length - 1 - j) [], f.getD (f.length - 1 - j) []] := rfl
set_option maxRecDepth 20000 in
set_option maxHeartbeats 2000000 in
theorem FnMinimizeIdempotent_walk {a : Option Addr} {n c : Nat} {w : World} (h : Bytes w a n c) :
    Calls Try.prog 9 #[.slice a n c] w fun e w' => e = .returned (.bool true) ∧ Ext none w w' := by
  rcases Nat.lt_or_ge 1048576 n with hl | hl
  · have hlI : (1048576 : Int) < (n : Int) := by omega
    go_enter Try.func9, Try.ntmps9
    go_wp2_with fail
    go_ret
    exact ⟨rfl, Ext.refl _ _⟩
  have hlI : ¬ (1048576 : Int) < (n : Int) := by omega
  go_enter Try.func9, Try.ntmps9
  go_wp2_with fail
  refine (DrawFamilyMinimize_any h).mono ?_; rintro e w_ ⟨a1, n1, c1, f, rfl, hf, hn, he⟩
  clear h
  cases hk : okM f
  · skip
    go_wp2_with fail
    refine (sFamilyMinimize_v hf hk).mono ?_; rintro e w_u ⟨a_u, n_u, c_u, rfl, f_u, e_u⟩
    replace hf := hf.ext e_u
    replace he := he.trans e_u
    clear e_u
    go_wp2_with fail
    refine (FamilyMinimize_v hf hk).mono ?_; rintro e w_v ⟨a_v, n_v, c_v, rfl, f_v, e_v⟩
    replace hf := hf.ext e_v
    replace f_u := f_u.ext e_v
    replace he := he.trans e_v
    clear e_v
    go_wp2_with fail
    refine (sameSets_v f_v f_u).mono ?_; rintro e w_ ⟨rfl, d_⟩
    replace hf := hf.ext d_.ext
    replace f_u := f_u.ext d_.ext
    replace f_v := f_v.ext d_.ext
    replace he := he.trans d_.ext
    clear d_
    go_wp2_with fail
    refine (sameSets_v f_v f_u).mono ?_; rintro e w_ ⟨rfl, d_⟩
    replace he := he.trans d_.ext
    clear d_
    go_wp2_with fail
    go_ret
    exact ⟨rfl, he⟩
  · have hl := Lib.hid hf.len
    have hm := hf.max
    have hidem := Lib.hid (minimize_idem hk)
    have hback := Lib.hid (back_law hk (by rw [hf.len]; omega))
    go_wp2_with fail
    refine (sFamilyMinimize_v hf hk).mono ?_; rintro e w_u ⟨a_u, n_u, c_u, rfl, f_u, e_u⟩
    replace hf := hf.ext e_u
    replace he := he.trans e_u
    clear e_u
    go_wp2_with fail
    refine (FamilyMinimize_v hf hk).mono ?_; rintro e w_v ⟨a_v, n_v, c_v, rfl, f_v, e_v⟩
    replace hf := hf.ext e_v
    replace f_u := f_u.ext e_v
    replace he := he.trans e_v
    clear e_v
    go_wp2_with fail
    refine (sameSets_v f_v f_u).mono ?_; rintro e w_ ⟨rfl, d_⟩
    replace hf := hf.ext d_.ext
    replace f_u := f_u.ext d_.ext
    replace f_v := f_v.ext d_.ext
    replace he := he.trans d_.ext
    clear d_
    go_wp2_with fail
    obtain ⟨wl, hwl⟩ : ∃ x, x = w_ := ⟨_, rfl⟩
    rw [← hwl] at hf f_v he ⊢
    clear hwl f_u
    have HF0 := Lib.hid hf.1
    go_loopw [8, 9] (fun v i wr => ∃ (j : Nat) (a2 : Option Addr) (n2 c2 : Nat), j ≤ n1 ∧ n2 = 2 * j ∧ i = .int .i64 ((n1 : Int) - 1 - (j : Int)) ∧ v = .slice a2 n2 c2 ∧ OwnF wr wl.heap.size 0 a2 n2 c2 (backOf f j) ∧ Ext none wl wr)
      (fun _ i _ => ((intOf i) + 1).toNat)
    case atStart => exact ⟨0, _, _, _, by omega, rfl, by simp, rfl, OwnF.made wl 0, (Ext.refl _ _).alloc _⟩
    case round =>
      obtain ⟨j, a2, n2, c2, hj, hn2, rfl, rfl, ho, hx⟩ := hrel
      have HO := Lib.hid ho
      have HN2 := Lib.hid hn2
      have hn2' : n2 ≤ 10 := by omega
      replace hf := hf.ext hx
      replace f_v := f_v.ext hx
      have HE := Lib.hid he
      replace he := hx
      clear hx ho hn2
      by_cases hlt : j < n1
      · obtain ⟨r, hr⟩ : ∃ r : Nat, r = n1 - 1 - j := ⟨_, rfl⟩
        have hrI : (n1 : Int) - 1 - (j : Int) = (r : Int) := by omega
        have hrn : r < n1 := by omega
        have hrnI : (r : Int) < (n1 : Int) := by omega
        rw [hrI]
        obtain ⟨b, off, a3, n3, c3, rfl, hc0, hi0⟩ := HF0.out.cell hrn
        have hc := he.cell hc0
        have hi := hi0.ext he
        have hblt := Lib.hid (fun p (hp : a3 = some p) (hn : 0 < n3) => hi0.block_lt hp hn)
        clear hc0 hi0
        have hst := Lib.hid (show backOf f (j + 1) = backOf f j ++ [f.getD r [], f.getD r []] from by rw [backOf_step, hl.out, ← hr])
        have HI := Lib.hid hi
        have HR := Lib.hid hr
        have HRI := Lib.hid hrI
        have hal := Lib.hid (show Ext none wr (wr.alloc (.cells #[.slice a3 n3 c3, .slice a3 n3 c3] 24)).drew from ((Ext.refl _ _).alloc _).drew)
        clear hi hr hrI
        have hat2 := Lib.hid (show At (wr.alloc (.cells #[.slice a3 n3 c3, .slice a3 n3 c3] 24)).drew (some ⟨wr.heap.size, 0, none⟩) 2 [.slice a3 n3 c3, .slice a3 n3 c3] from
          At.ext (Own.at_ (show Own (wr.alloc (.cells #[.slice a3 n3 c3, .slice a3 n3 c3] 24)) wr.heap.size 24 (some ⟨wr.heap.size, 0, none⟩) 2 2 [.slice a3 n3 c3, .slice a3 n3 c3] from World.ownsRow_lit wr #[.slice a3 n3 c3, .slice a3 n3 c3] 2 (Nat.le_refl _) (by simp [maxLen]) rfl)) ((Ext.refl none _).drew))
        have hrow := Lib.hid (show RowI (wr.alloc (.cells #[.slice a3 n3 c3, .slice a3 n3 c3] 24)).drew (Value.slice a2 n2 c2).ownBlock 0 (.slice a3 n3 c3) (f.getD r []) from
          ⟨a3, n3, c3, rfl, HI.out.ext hal.out, fun p hp hn => ⟨fun e => by have := hblt.out p hp hn; have := HO.out.block _ e; omega, by omega⟩⟩)
        have hrow2 := Lib.hid (((Rows.nil _ _ 0).snoc hrow.out).snoc hrow.out)
        have hE2 := Lib.hid (he.trans hal.out)
        have hI2 := Lib.hid (show (r : Int) - 1 = (n1 : Int) - 1 - ((j + 1 : Nat) : Int) from by have := HRI.out; omega)
        go_wp2_with fail
        go_region_law (refine step_fam rfl (.tmp 58) (.tmp 67) rfl wl.heap.size 0 a2 n2 c2 _ rfl (HO.out.ext0 hal.out) ⟨wr.heap.size, 0, none⟩ 2 2 [.slice a3 n3 c3, .slice a3 n3 c3] [f.getD r [], f.getD r []] rfl hat2.out hrow2.out (by omega) hE2.out.size ?_; intro a5 c5 w5 ho5 hg5)
        all_goals
          go_wp2_with fail
          go_roundw
          case rel => exact ⟨j + 1, a5, n2 + 2, c5, by omega, by have := HN2.out; omega, by rw [← hI2.out], rfl, by rw [hst.out]; exact ho5, hE2.out.grown hg5 (fun q hq => .inl (HO.out.block q hq))⟩
          case measure => simp [intOf]
      · obtain rfl : j = n1 := by omega
        have hlt0 : (j : Int) - 1 - (j : Int) < 0 := by omega
        have hfin := Lib.hid (show backOf f j = backOf f f.length from by rw [hl.out])
        rw [hfin.out] at HO
        have hO := HO.out.famV
        go_wp2_with fail
        refine (FamilyMinimize_v f_v hidem.out.2).mono ?_; rintro e w_x ⟨a_x, n_x, c_x, rfl, f_x, e_x⟩
        rw [hidem.out.1] at f_x
        replace f_v := f_v.ext e_x
        replace hO := hO.ext e_x
        replace he := he.trans e_x
        clear e_x
        go_wp2_with fail
        refine (FamilyMinimize_v hO hback.out.1).mono ?_; rintro e w_y ⟨a_y, n_y, c_y, rfl, f_y, e_y⟩
        replace f_v := f_v.ext e_y
        replace f_x := f_x.ext e_y
        replace he := he.trans e_y
        clear e_y
        rw [hback.out.2] at f_y
        go_wp2_with fail
        refine (sameSets_v f_x f_v).mono ?_; rintro e w_ ⟨rfl, d_⟩
        replace f_v := f_v.ext d_.ext
        replace f_y := f_y.ext d_.ext
        replace he := he.trans d_.ext
        clear d_
        go_wp2_with fail
        refine (sameSets_v f_y f_v).mono ?_; rintro e w_ ⟨rfl, d_⟩
        replace he := he.trans d_.ext
        clear d_
        go_wp2_with fail
        go_ret
        exact ⟨rfl, HE.out.trans he⟩
end Go.Proofs.Ytnlmcbilhfmenaa
