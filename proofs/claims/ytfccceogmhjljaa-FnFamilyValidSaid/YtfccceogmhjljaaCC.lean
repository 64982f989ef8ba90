/- The quorum systems of package impl: CriticalMembers; contracts with their answer a literal. Conditions: each lemma's own. -/
import Derived.Test.YtfccceogmhjljaaPJ
import Derived.Test.YtfccceogmhjljaaPF
import Derived.Test.YtfccceogmhjljaaPQ
import Derived.Test.YtfccceogmhjljaaX1
import Derived.Test.YtfccceogmhjljaaPB
import Derived.Test.YtfccceogmhjljaaS2
namespace Go.Proofs.Ytfccceogmhjljaa
open Go.RowKit
set_option linter.unusedVariables false

theorem FamilyHasQuorum_is {a : Option Addr} {n cp : Nat} {f : List (List Int)} {b : Option Addr} {m cq : Nat} {s : List Int} {w : World} {q : Bool} (h : Fam w a n f) (hs : Ints w b m s) (hq : hasL f s = q) :
    Calls Try.prog 33 #[.slice a n cp, .slice b m cq] w fun e w' => e = .returned (.bool q) ∧ Ext none w w' := by
  rw [← hq]; exact FamilyHasQuorum_any h hs
theorem FamilyValid_is {a : Option Addr} {n cp : Nat} {f : List (List Int)} {w : World} {q : Bool} (h : Fam w a n f) (hq : famB f = q) :
    Calls Try.prog 16 #[.slice a n cp] w fun e w' => e = .returned (.bool q) ∧ Ext none w w' := by
  rw [← hq]; exact FamilyValid_any h
theorem SetSubset_is {a : Option Addr} {n cp : Nat} {xs : List Int} {b : Option Addr} {m cq : Nat} {ys : List Int} {w : World} {q : Bool} (hx : Ints w a n xs) (hy : Ints w b m ys) (hq : subsetL xs ys = q) :
    Calls Try.prog 47 #[.slice a n cp, .slice b m cq] w fun e w' => e = .returned (.bool q) ∧ w = w' := by
  rw [← hq]; exact SetSubset_any hx hy
theorem sameInts_is {a : Option Addr} {n c : Nat} {xs : List Int} {b : Option Addr} {m d : Nat} {ys : List Int} {w : World} {q : Bool} (hx : Ints w a n xs) (hy : Ints w b m ys) (hq : same xs ys = q) :
    Calls Try.prog 69 #[.slice a n c, .slice b m d] w fun e w' => e = .returned (.bool q) ∧ Dr w w' := by
  rw [← hq]; exact sameInts_any hx hy

end Go.Proofs.Ytfccceogmhjljaa
