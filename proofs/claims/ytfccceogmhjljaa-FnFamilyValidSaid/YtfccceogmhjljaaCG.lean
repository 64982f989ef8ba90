/- Families: contracts with their answer a literal, for the laws. Conditions: each lemma's own. -/
import Derived.Test.YtfccceogmhjljaaPI
import Derived.Test.YtfccceogmhjljaaCC
import Derived.Test.YtfccceogmhjljaaPE
import Derived.Test.YtfccceogmhjljaaD8
import Derived.Test.YtfccceogmhjljaaX2
namespace Go.Proofs.Ytfccceogmhjljaa
open Go.RowKit
set_option linter.unusedVariables false

/-- What a function leaves that returns a family and a Bool, as the laws need it. -/
def RV (w : World) (f : List (List Int)) (q : Bool) (e : Ending) (w' : World) : Prop :=
  ∃ a n c, e = .returned (.tuple #[.slice a n c, .bool q]) ∧ FamV w' a n c f ∧ Ext none w w'
theorem RGB.rv {w : World} {f : List (List Int)} {b : Bool} {e : Ending} {w' : World} (h : RGB w f b e w') : RV w f b e w' := by
  obtain ⟨a, n, c, e, h, x⟩ := h; exact ⟨a, n, c, e, h.ownF.famV, x⟩
theorem RFB.rv {w : World} {f : List (List Int)} {b : Bool} {e : Ending} {w' : World} (h : RFB w f b e w') : RV w f b e w' := by
  obtain ⟨a, n, c, e, h, x⟩ := h; exact ⟨a, n, c, e, h.famV, x⟩
theorem FamilyMinimize_v {a : Option Addr} {n cp : Nat} {f : List (List Int)} {w : World} {q : Bool} (h : FamV w a n cp f) (hq : okM f = q) :
    Calls Try.prog 22 #[.slice a n cp] w (RV w (minimizeL f) q) := by
  rw [← hq]; exact (FamilyMinimize_any h.1).mono fun _ _ => RGB.rv
theorem sFamilyMinimize_v {a : Option Addr} {n cp : Nat} {f : List (List Int)} {w : World} {q : Bool} (h : FamV w a n cp f) (hq : okM f = q) :
    Calls Try.prog 20 #[.slice a n cp] w (RV w (minimizeL f) q) := by
  rw [← hq]; exact (sFamilyMinimize_any h.1).mono fun _ _ => RFB.rv
theorem FamilyEither_v {a : Option Addr} {n cp : Nat} {f : List (List Int)} {b : Option Addr} {m cq : Nat} {g : List (List Int)} {w : World} {q : Bool} (h : FamV w a n cp f) (h' : FamV w b m cq g) (hq : ok2 f g = q) :
    Calls Try.prog 27 #[.slice a n cp, .slice b m cq] w (RV w (eitherL f g) q) := by
  rw [← hq]; exact (FamilyEither_any h.1 h'.1).mono fun _ _ => RGB.rv
theorem FamilyBoth_v {a : Option Addr} {n cp : Nat} {f : List (List Int)} {b : Option Addr} {m cq : Nat} {g : List (List Int)} {w : World} {q : Bool} (h : FamV w a n cp f) (h' : FamV w b m cq g) (hq : ok2 f g = q) :
    Calls Try.prog 29 #[.slice a n cp, .slice b m cq] w (RV w (bothL f g) q) := by
  rw [← hq]; exact (FamilyBoth_any h.1 h'.1).mono fun _ _ => RGB.rv
theorem sFamilyEither_v {a : Option Addr} {n cp : Nat} {f : List (List Int)} {b : Option Addr} {m cq : Nat} {g : List (List Int)} {w : World} {q : Bool} (h : FamV w a n cp f) (h' : FamV w b m cq g) (hq : ok2 f g = q) :
    Calls Try.prog 26 #[.slice a n cp, .slice b m cq] w (RV w (eitherL f g) q) := by
  rw [← hq]; exact (sFamilyEither_any h.1 h.2.1 h'.1 h'.2.1).mono fun _ _ => RFB.rv
theorem sFamilyBoth_v {a : Option Addr} {n cp : Nat} {f : List (List Int)} {b : Option Addr} {m cq : Nat} {g : List (List Int)} {w : World} {q : Bool} (h : FamV w a n cp f) (h' : FamV w b m cq g) (hq : ok2 f g = q) :
    Calls Try.prog 28 #[.slice a n cp, .slice b m cq] w (RV w (bothL f g) q) := by
  rw [← hq]; exact (sFamilyBoth_any h.1 h'.1).mono fun _ _ => RFB.rv
theorem sameSets_v {a : Option Addr} {n c : Nat} {f : List (List Int)} {b : Option Addr} {m d : Nat} {w : World} (hx : FamV w a n c f) (hy : FamV w b m d f) :
    Calls Try.prog 31 #[.slice a n c, .slice b m d] w fun e w' => e = .returned (.bool true) ∧ Dr w w' := sameSets_is hx.1 hy.1 (sameF_refl f)
theorem HasQuorum_v {a : Option Addr} {n cp : Nat} {f : List (List Int)} {b : Option Addr} {m cq : Nat} {s : List Int} {w : World} {q : Bool} (h : FamV w a n cp f) (hs : Ints w b m s) (hq : hasL f s = q) :
    Calls Try.prog 33 #[.slice a n cp, .slice b m cq] w fun e w' => e = .returned (.bool q) ∧ Ext none w w' := FamilyHasQuorum_is h.1 hs hq
theorem FamV.cell {w : World} {a : Option Addr} {n c : Nat} {f : List (List Int)} (h : FamV w a n c f) {k : Nat} (hk : k < n) :
    ∃ b off a2 n2 c2, a = some ⟨b, off, none⟩ ∧ w.cell? ⟨b, off + k, none⟩ = some (.slice a2 n2 c2) ∧ Ints w a2 n2 (f.getD k []) := h.1.cell hk
theorem FamV.len {w : World} {a : Option Addr} {n c : Nat} {f : List (List Int)} (h : FamV w a n c f) : f.length = n := h.1.len
theorem FamV.max {w : World} {a : Option Addr} {n c : Nat} {f : List (List Int)} (h : FamV w a n c f) : n ≤ 9223372036854775807 := h.1.max
end Go.Proofs.Ytfccceogmhjljaa
