/- The draws of package spec: what the laws of quorum systems draw. Conditions: each lemma's own. -/
import Derived.Test.YtfccceogmhjljaaD7
namespace Go.Proofs.Ytfccceogmhjljaa
open Go.RowKit
set_option linter.unusedVariables false

/-- A family's slice, with what Go says of a slice. -/
def FamV (w : World) (a : Option Addr) (n c : Nat) (f : List (List Int)) : Prop := Fam w a n f ∧ Nil0 a n c ∧ n ≤ c ∧ c ≤ 9223372036854775807
theorem FamV.ext {w w' : World} {a : Option Addr} {n c : Nat} {f : List (List Int)} (h : FamV w a n c f) (hx : Ext none w w') : FamV w' a n c f := ⟨h.1.ext hx, h.2⟩
theorem OwnF.famV {w : World} {B R : Nat} {a : Option Addr} {n c : Nat} {f : List (List Int)} (h : OwnF w B R a n c f) : FamV w a n c f := ⟨h.fam, h.nil0, h.cap⟩
def F1R (w : World) (e : Ending) (w' : World) : Prop :=
  ∃ a n c f, e = .returned (.slice a n c) ∧ FamV w' a n c f ∧ n ≤ 80 ∧ Ext none w w'
def F1SR (w : World) (e : Ending) (w' : World) : Prop :=
  ∃ a n c f b m d xs, e = .returned (.tuple #[.slice a n c, .slice b m d]) ∧ FamV w' a n c f ∧ n ≤ 80 ∧ Ints w' b m xs ∧ Ext none w w'
def F2R (w : World) (e : Ending) (w' : World) : Prop :=
  ∃ a n c f b m d g, e = .returned (.tuple #[.slice a n c, .slice b m d]) ∧ FamV w' a n c f ∧ n ≤ 80 ∧ FamV w' b m d g ∧ m ≤ 80 ∧ Ext none w w'

set_option maxHeartbeats 400000 in
theorem DrawFamilyEither_any {a : Option Addr} {n c : Nat} {w : World} (h : Bytes w a n c) :
    Calls Try.prog 34 #[.slice a n c] w (F2R w) := by
  go_enter Try.func34, Try.ntmps34
  go_wp2_with fail
  refine (l6Open_any h).mono ?_; rintro e w1 ⟨rfl, hr1, he1⟩
  have hlt := hr1.lt
  go_wp2_with fail
  refine (l91Family_any hr1 (by omega)).mono ?_; rintro e w2 ⟨a2, n2, c2, f, rfl, ho2, hn2, hr2, he2⟩
  go_wp2_with fail
  refine (l91Family_any hr2 (by omega)).mono ?_; rintro e w3 ⟨a3, n3, c3, g, rfl, ho3, hn3, hr3, he3⟩
  have ho2' := ho2.ext he3 (fun j hj => by cases hj; exact ⟨hlt, hlt⟩)
  go_wp2_with fail
  go_ret2
  exact ⟨_, _, _, _, _, _, _, _, rfl, ho2'.famV, by omega, ho3.famV, by omega, he1.loc (he2.trans he3) (Nat.le_refl _)⟩
set_option maxHeartbeats 400000 in
theorem DrawFamilyBoth_any {a : Option Addr} {n c : Nat} {w : World} (h : Bytes w a n c) :
    Calls Try.prog 30 #[.slice a n c] w (F2R w) := by
  go_enter Try.func30, Try.ntmps30
  go_wp2_with fail
  refine (DrawFamilyEither_any h).mono ?_; rintro e w1 ⟨a2, n2, c2, f, b2, m2, d2, g, rfl, h1, h2, h3, h4, he⟩
  go_wp2_with fail
  go_ret2
  exact ⟨_, _, _, _, _, _, _, _, rfl, h1, h2, h3, h4, he⟩
set_option maxHeartbeats 1000000 in
theorem DrawFamilyValid_any {a : Option Addr} {n c : Nat} {w : World} (h : Bytes w a n c) :
    Calls Try.prog 15 #[.slice a n c] w (F1R w) := by
  go_enter Try.func15, Try.ntmps15
  go_wp2_with fail
  refine (l6Open_any h).mono ?_; rintro e w1 ⟨rfl, hr1, he1⟩
  have hlt := hr1.lt
  go_wp2_with fail
  refine (l91Family_any hr1 (by omega)).mono ?_; rintro e w2 ⟨a2, n2, c2, f, rfl, ho2, hn2, hr2, he2⟩
  go_wp2_with fail
  refine (pick_any hr2 (by omega) (by omega) (by omega)).mono ?_; rintro e w3 ⟨y, rfl, hy0, hy1, hr3, he3⟩
  have ho3 := ho2.ext he3 (fun j hj => by cases hj; exact ⟨hlt, hlt⟩)
  have he13 := he2.trans he3
  clear ho2 he2 he3 hr1 hr2
  by_cases y0 : y = 0
  · subst y0
    go_wp2_with fail
    refine (l91Set_any hr3 (by omega)).mono ?_; rintro e w4 ⟨a4, n4, c4, ys, rfl, ho4, _, hr4, he4⟩
    have hrow := ho4.row (r := (Value.slice a2 n2 c2).ownBlock) (R := w1.heap.size) (fun j hj => ho3.blockLt j hj) he13.size
    have ho5 := ho3.ext he4 (fun j hj => by cases hj; exact ⟨hlt, hlt⟩)
    have he5 := he13.trans he4
    clear ho3 ho4 he4 he13
    go_wp2_with (at_builtin; refine app_row _ rfl _ _ rfl w1.heap.size w1.heap.size a2 n2 c2 _ ho5 a4 n4 c4 _ hrow rfl rfl (by omega) he5.size ?_; intro g c' w9 ho9 hg9)
    go_ret
    exact ⟨_, _, _, _, rfl, ho9.famV, by omega, he1.loc (he5.grown hg9 (fun j hj => .inl (ho5.block j hj))) (Nat.le_refl _)⟩
  · have b0 : (y == 0) = false := by rw [beq_eq_false_iff_ne]; exact y0
    go_wp2_with fail
    go_ret
    exact ⟨_, _, _, _, rfl, ho3.famV, by omega, he1.loc he13 (Nat.le_refl _)⟩
end Go.Proofs.Ytfccceogmhjljaa
