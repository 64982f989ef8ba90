/- The walk of laws.FnDistributeFamilies: it returns true. Condition: the arguments are slices of bytes. -/
import Derived.Test.YtfccceogmhjljaaCG
namespace Go.Proofs.Ytfccceogmhjljaa
open Go.RowKit
set_option linter.unusedVariables false

theorem FamV.lit1 {w : World} {a : Option Addr} {n c : Nat} {s : List Int} (h : Ints w a n s) :
    FamV (w.alloc (.cells #[.slice a n c] 26)) (some ⟨w.heap.size, 0, none⟩) 1 1 [s] :=
  ⟨⟨[.slice a n c],
    Own.at_ (show Own (w.alloc (.cells #[.slice a n c] 26)) w.heap.size 26 (some ⟨w.heap.size, 0, none⟩) 1 1 [.slice a n c] from World.ownsRow_lit w #[.slice a n c] 1 (Nat.le_refl _) (by simp [maxLen]) rfl),
    (Rows.nil _ _ 0).snoc ⟨a, n, c, rfl, h.ext ((Ext.refl _ _).alloc _), fun p hp hn => ⟨by simp, by omega⟩⟩⟩,
   (fun h => by cases h), Nat.le_refl _, by omega⟩
def two (n : Int) : List Int := unionL (mem (setN n)) [2]
theorem two_okM (n : Int) : okM [two n] = true := by
  have e : two n = mem (setN n ||| 2) := by
    unfold two
    rw [unionL_yes (mem_valid (setN_lt n)) (by decide), mask_mem (setN_lt n)]; rfl
  have h1 : setN n ||| 2 < 64 := or_lt (setN_lt n) (by decide)
  have h2 : setN n ||| 2 ≠ 0 := by
    intro h
    have key : ∀ x < 64, x ||| 2 ≠ 0 := by decide +kernel
    exact key _ (setN_lt n) h
  rw [e]
  unfold okM
  simp [mem_valid h1, mask_mem h1, h2]

set_option maxHeartbeats 2000000 in
theorem FnDistributeFamilies_walk {a : Option Addr} {n c : Nat} {a' : Option Addr} {n' c' : Nat} {w : World} (h : Bytes w a n c) (h' : Bytes w a' n' c') :
    Calls Try.prog 10 #[.slice a n c, .slice a' n' c'] w fun e w' => e = .returned (.bool true) ∧ Ext none w w' := by
  clear h'
  rcases Nat.lt_or_ge 1048576 n with hl | hl
  · have hlI : (1048576 : Int) < (n : Int) := by omega
    go_enter Try.func10, Try.ntmps10
    go_wp2_with fail
    go_ret
    exact ⟨rfl, Ext.refl _ _⟩
  have hlI : ¬ (1048576 : Int) < (n : Int) := by omega
  rcases Nat.lt_or_ge 1048576 n' with hl' | hl'
  · have hlI' : (1048576 : Int) < (n' : Int) := by omega
    go_enter Try.func10, Try.ntmps10
    go_wp2_with fail
    go_ret
    exact ⟨rfl, Ext.refl _ _⟩
  have hlI' : ¬ (1048576 : Int) < (n' : Int) := by omega
  go_enter Try.func10, Try.ntmps10
  go_wp2_with fail
  refine (DrawFamilyEither_any h).mono ?_; rintro e w_ ⟨a1, n1, c1, f, b1, m1, d1, g, rfl, hf, hn, hg, hm, he⟩
  clear h
  cases hk : ok2 f g
  · skip
    go_wp2_with fail
    refine (sFamilyEither_v hf hg hk).mono ?_; rintro e w_u ⟨a_u, n_u, c_u, rfl, f_u, e_u⟩
    replace hf := hf.ext e_u
    replace hg := hg.ext e_u
    replace he := he.trans e_u
    clear e_u
    go_wp2_with fail
    refine (FamilyEither_v hf hg hk).mono ?_; rintro e w_v ⟨a_v, n_v, c_v, rfl, f_v, e_v⟩
    replace hf := hf.ext e_v
    replace hg := hg.ext e_v
    replace f_u := f_u.ext e_v
    replace he := he.trans e_v
    clear e_v
    go_wp2_with fail
    refine (sameSets_v f_v f_u).mono ?_; rintro e w_ ⟨rfl, d_⟩
    replace hf := hf.ext d_.ext
    replace hg := hg.ext d_.ext
    replace f_u := f_u.ext d_.ext
    replace f_v := f_v.ext d_.ext
    replace he := he.trans d_.ext
    clear d_
    go_wp2_with fail
    refine (sameSets_v f_v f_u).mono ?_; rintro e w_ ⟨rfl, d_⟩
    replace he := he.trans d_.ext
    clear d_
    go_wp2_with fail
    go_ret
    exact ⟨rfl, he⟩
  · have hokm := Lib.hid (two_okM (n' : Int))
    have hkf := Lib.hid (minimizeL_fam (two_okM (n' : Int)))
    have hdis := Lib.hid (distrib_fam hk hkf.out)
    have hq0 : (0 : Int) ≤ (n' : Int) := by omega
    have hq1 : (n' : Int) ≤ 2000000 := by omega
    go_wp2_with fail
    refine (sFamilyEither_v hf hg hk).mono ?_; rintro e w_u ⟨a_u, n_u, c_u, rfl, f_u, e_u⟩
    replace hf := hf.ext e_u
    replace hg := hg.ext e_u
    replace he := he.trans e_u
    clear e_u
    go_wp2_with fail
    refine (FamilyEither_v hf hg hk).mono ?_; rintro e w_v ⟨a_v, n_v, c_v, rfl, f_v, e_v⟩
    replace hf := hf.ext e_v
    replace hg := hg.ext e_v
    replace f_u := f_u.ext e_v
    replace he := he.trans e_v
    clear e_v
    go_wp2_with fail
    refine (sameSets_v f_v f_u).mono ?_; rintro e w_ ⟨rfl, d_⟩
    replace hf := hf.ext d_.ext
    replace hg := hg.ext d_.ext
    replace f_v := f_v.ext d_.ext
    replace he := he.trans d_.ext
    clear d_
    go_wp2_with fail
    refine (setOf_any hq0 hq1).mono ?_; rintro e w_s ⟨a_s, n_s, c_s, rfl, o_s, e_s⟩
    have i_s := o_s.ints
    replace hf := hf.ext e_s
    replace hg := hg.ext e_s
    replace f_v := f_v.ext e_s
    replace he := he.trans e_s
    clear o_s e_s
    have i_t := (OwnI.lit1 w_s 2).ints
    have e_t := Lib.hid (show Ext none w_s (w_s.alloc (.cells #[.int .i64 2] 3)) from (Ext.refl _ _).alloc _)
    replace i_s := i_s.ext e_t.out
    go_wp2_with fail
    refine (SetUnion_any i_s i_t).mono ?_; rintro e w3 ⟨a3, n3, c3, rfl, o3, e3⟩
    have i3 := Lib.hid (show Ints w3 a3 n3 (two (n' : Int)) from o3.ints)
    replace hf := (hf.ext e_t.out).ext e3
    replace hg := (hg.ext e_t.out).ext e3
    replace f_v := (f_v.ext e_t.out).ext e3
    replace he := (he.trans e_t.out).trans e3
    clear i_s i_t e_t o3 e3
    have f3 := FamV.lit1 (c := c3) i3.out
    have e4 := Lib.hid (show Ext none w3 (w3.alloc (.cells #[.slice a3 n3 c3] 26)) from (Ext.refl _ _).alloc _)
    replace hf := hf.ext e4.out
    replace hg := hg.ext e4.out
    replace f_v := f_v.ext e4.out
    replace he := he.trans e4.out
    clear e4
    go_wp2_with fail
    refine (FamilyMinimize_v f3 hokm.out).mono ?_; rintro e w_k ⟨a_k, n_k, c_k, rfl, f_k, e_k⟩
    replace hf := hf.ext e_k
    replace hg := hg.ext e_k
    replace f_v := f_v.ext e_k
    replace he := he.trans e_k
    clear e_k
    clear f3
    go_wp2_with fail
    refine (FamilyBoth_v f_k f_v hdis.out.2.1).mono ?_; rintro e w_x ⟨a_x, n_x, c_x, rfl, f_x, e_x⟩
    replace hf := hf.ext e_x
    replace hg := hg.ext e_x
    replace f_k := f_k.ext e_x
    replace he := he.trans e_x
    clear e_x
    go_wp2_with fail
    refine (FamilyBoth_v f_k hf hdis.out.2.2.1).mono ?_; rintro e w_y ⟨a_y, n_y, c_y, rfl, f_y, e_y⟩
    replace hg := hg.ext e_y
    replace f_k := f_k.ext e_y
    replace f_x := f_x.ext e_y
    replace he := he.trans e_y
    clear e_y
    go_wp2_with fail
    refine (FamilyBoth_v f_k hg hdis.out.2.2.2.1).mono ?_; rintro e w_z ⟨a_z, n_z, c_z, rfl, f_z, e_z⟩
    replace f_x := f_x.ext e_z
    replace f_y := f_y.ext e_z
    replace he := he.trans e_z
    clear e_z
    go_wp2_with fail
    refine (FamilyEither_v f_y f_z hdis.out.2.2.2.2).mono ?_; rintro e w_t ⟨a_t, n_t, c_t, rfl, f_t, e_t⟩
    replace f_x := f_x.ext e_t
    replace he := he.trans e_t
    clear e_t
    rw [hdis.out.1] at f_x
    go_wp2_with fail
    refine (sameSets_v f_x f_t).mono ?_; rintro e w_ ⟨rfl, d_⟩
    replace he := he.trans d_.ext
    clear d_
    go_wp2_with fail
    go_ret
    exact ⟨rfl, he⟩
end Go.Proofs.Ytfccceogmhjljaa
