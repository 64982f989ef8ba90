/- The walk of laws.FnAbsorb: it returns true. Condition: the argument is a slice of bytes. -/
import Derived.Test.YtfccceogmhjljaaCG
namespace Go.Proofs.Ytfccceogmhjljaa
open Go.RowKit
set_option linter.unusedVariables false

set_option maxHeartbeats 2000000 in
theorem FnAbsorb_walk {a : Option Addr} {n c : Nat} {w : World} (h : Bytes w a n c) :
    Calls Try.prog 9 #[.slice a n c] w fun e w' => e = .returned (.bool true) ∧ Ext none w w' := by
  rcases Nat.lt_or_ge 1048576 n with hl | hl
  · have hlI : (1048576 : Int) < (n : Int) := by omega
    go_enter Try.func9, Try.ntmps9
    go_wp2_with fail
    go_ret
    exact ⟨rfl, Ext.refl _ _⟩
  have hlI : ¬ (1048576 : Int) < (n : Int) := by omega
  go_enter Try.func9, Try.ntmps9
  go_wp2_with fail
  refine (DrawFamilyBoth_any h).mono ?_; rintro e w_ ⟨a1, n1, c1, f, b1, m1, d1, g, rfl, hf, hn, hg, hm, he⟩
  clear h
  cases hk : ok2 f g
  · skip
    go_wp2_with fail
    refine (sFamilyBoth_v hf hg hk).mono ?_; rintro e w_u ⟨a_u, n_u, c_u, rfl, f_u, e_u⟩
    replace hf := hf.ext e_u
    replace hg := hg.ext e_u
    replace he := he.trans e_u
    clear e_u
    go_wp2_with fail
    refine (FamilyBoth_v hf hg hk).mono ?_; rintro e w_v ⟨a_v, n_v, c_v, rfl, f_v, e_v⟩
    replace hf := hf.ext e_v
    replace hg := hg.ext e_v
    replace f_u := f_u.ext e_v
    replace he := he.trans e_v
    clear e_v
    go_wp2_with fail
    refine (sameSets_v f_v f_u).mono ?_; rintro e w_ ⟨rfl, d_⟩
    replace hf := hf.ext d_.ext
    replace hg := hg.ext d_.ext
    replace f_u := f_u.ext d_.ext
    replace f_v := f_v.ext d_.ext
    replace he := he.trans d_.ext
    clear d_
    go_wp2_with fail
    refine (sameSets_v f_v f_u).mono ?_; rintro e w_ ⟨rfl, d_⟩
    replace he := he.trans d_.ext
    clear d_
    go_wp2_with fail
    go_ret
    exact ⟨rfl, he⟩
  · have hab := Lib.hid (absorb hk)
    go_wp2_with fail
    refine (sFamilyBoth_v hf hg hk).mono ?_; rintro e w_u ⟨a_u, n_u, c_u, rfl, f_u, e_u⟩
    replace hf := hf.ext e_u
    replace hg := hg.ext e_u
    replace he := he.trans e_u
    clear e_u
    go_wp2_with fail
    refine (FamilyBoth_v hf hg hk).mono ?_; rintro e w_v ⟨a_v, n_v, c_v, rfl, f_v, e_v⟩
    replace hf := hf.ext e_v
    replace hg := hg.ext e_v
    replace f_u := f_u.ext e_v
    replace he := he.trans e_v
    clear e_v
    go_wp2_with fail
    refine (sameSets_v f_v f_u).mono ?_; rintro e w_ ⟨rfl, d_⟩
    replace hf := hf.ext d_.ext
    replace hg := hg.ext d_.ext
    replace f_v := f_v.ext d_.ext
    replace he := he.trans d_.ext
    clear d_
    go_wp2_with fail
    refine (FamilyEither_v hf f_v hab.out.2.2.1).mono ?_; rintro e w_x ⟨a_x, n_x, c_x, rfl, f_x, e_x⟩
    replace hf := hf.ext e_x
    replace hg := hg.ext e_x
    replace he := he.trans e_x
    clear e_x
    rw [hab.out.1] at f_x
    go_wp2_with fail
    refine (FamilyEither_v hf hg hk).mono ?_; rintro e w_y ⟨a_y, n_y, c_y, rfl, f_y, e_y⟩
    replace hf := hf.ext e_y
    replace f_x := f_x.ext e_y
    replace he := he.trans e_y
    clear e_y
    go_wp2_with fail
    refine (FamilyBoth_v hf f_y hab.out.2.2.2).mono ?_; rintro e w_z ⟨a_z, n_z, c_z, rfl, f_z, e_z⟩
    replace hf := hf.ext e_z
    replace f_x := f_x.ext e_z
    replace he := he.trans e_z
    clear e_z
    rw [hab.out.2.1] at f_z
    go_wp2_with fail
    refine (sameSets_v f_x hf).mono ?_; rintro e w_ ⟨rfl, d_⟩
    replace hf := hf.ext d_.ext
    replace f_z := f_z.ext d_.ext
    replace he := he.trans d_.ext
    clear d_
    go_wp2_with fail
    refine (sameSets_v f_z hf).mono ?_; rintro e w_ ⟨rfl, d_⟩
    replace he := he.trans d_.ext
    clear d_
    go_wp2_with fail
    go_ret
    exact ⟨rfl, he⟩
end Go.Proofs.Ytfccceogmhjljaa
