/- Families: contracts with their answer a literal, for the laws. Conditions: each lemma's own. -/
import Derived.Test.YtnifgfnhcjhodaaPI
import Derived.Test.YtnifgfnhcjhodaaCC
import Derived.Test.YtnifgfnhcjhodaaPE
import Derived.Test.YtnifgfnhcjhodaaD8
import Derived.Test.YtnifgfnhcjhodaaX2
namespace Go.Proofs.Ytnifgfnhcjhodaa
open Go.RowKit
set_option linter.unusedVariables false

/-- What a function leaves that returns a family and a Bool, as the laws need it. -/
def RV (w : World) (f : List (List Int)) (q : Bool) (e : Ending) (w' : World) : Prop :=
  ∃ a n c, e = .returned (.tuple #[.slice a n c, .bool q]) ∧ FamV w' a n c f ∧ Ext none w w'
theorem RGB.rv {w : World} {f : List (List Int)} {b : Bool} {e : Ending} {w' : World} (h : RGB w f b e w') : RV w f b e w' := by
  obtain ⟨a, n, c, e, h, x⟩ := h; exact ⟨a, n, c, e, h.ownF.famV, x⟩
theorem RFB.rv {w : World} {f : List (List Int)} {b : Bool} {e : Ending} {w' : World} (h : RFB w f b e w') : RV w f b e w' := by
  obtain ⟨a, n, c, e, h, x⟩ := h; exact ⟨a, n, c, e, h.famV, x⟩
theorem FamV.cell {w : World} {a : Option Addr} {n c : Nat} {f : List (List Int)} (h : FamV w a n c f) {k : Nat} (hk : k < n) :
    ∃ b off a2 n2 c2, a = some ⟨b, off, none⟩ ∧ w.cell? ⟨b, off + k, none⟩ = some (.slice a2 n2 c2) ∧ Ints w a2 n2 (f.getD k []) := h.1.cell hk
theorem FamV.len {w : World} {a : Option Addr} {n c : Nat} {f : List (List Int)} (h : FamV w a n c f) : f.length = n := h.1.len
theorem FamV.max {w : World} {a : Option Addr} {n c : Nat} {f : List (List Int)} (h : FamV w a n c f) : n ≤ 9223372036854775807 := h.1.max
end Go.Proofs.Ytnifgfnhcjhodaa
