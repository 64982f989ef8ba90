/- The draws of package spec: what the laws of quorum systems draw. Conditions: each lemma's own. -/
import Derived.Test.YtnifgfnhcjhodaaD7
namespace Go.Proofs.Ytnifgfnhcjhodaa
open Go.RowKit
set_option linter.unusedVariables false

/-- A family's slice, with what Go says of a slice. -/
def FamV (w : World) (a : Option Addr) (n c : Nat) (f : List (List Int)) : Prop := Fam w a n f ∧ Nil0 a n c ∧ n ≤ c ∧ c ≤ 9223372036854775807
theorem FamV.ext {w w' : World} {a : Option Addr} {n c : Nat} {f : List (List Int)} (h : FamV w a n c f) (hx : Ext none w w') : FamV w' a n c f := ⟨h.1.ext hx, h.2⟩
theorem OwnF.famV {w : World} {B R : Nat} {a : Option Addr} {n c : Nat} {f : List (List Int)} (h : OwnF w B R a n c f) : FamV w a n c f := ⟨h.fam, h.nil0, h.cap⟩
def F1R (w : World) (e : Ending) (w' : World) : Prop :=
  ∃ a n c f, e = .returned (.slice a n c) ∧ FamV w' a n c f ∧ n ≤ 80 ∧ Ext none w w'
def F1SR (w : World) (e : Ending) (w' : World) : Prop :=
  ∃ a n c f b m d xs, e = .returned (.tuple #[.slice a n c, .slice b m d]) ∧ FamV w' a n c f ∧ n ≤ 80 ∧ Ints w' b m xs ∧ Ext none w w'
def F2R (w : World) (e : Ending) (w' : World) : Prop :=
  ∃ a n c f b m d g, e = .returned (.tuple #[.slice a n c, .slice b m d]) ∧ FamV w' a n c f ∧ n ≤ 80 ∧ FamV w' b m d g ∧ m ≤ 80 ∧ Ext none w w'

end Go.Proofs.Ytnifgfnhcjhodaa
