/-
  DERIVED. GIVEN WITH THE SEED: THE CARDS: each row of YtjjjpakgnipghaaDoorRows.lean that lists a variable, with what it lists TIED to the program's text (the seventh form; the later family's looks); each row that meets fmt, with fmt's text TOLD by the authors' own Lean function (tested against real Go, not proved from fmt's source: count such statements apart). THE CARD IS WHAT COUNTS. Prove the row's statement (the work); the ties are given (YtjjjpakgnipghaaDoorTie.lean); close each card by the builder's one call (the guide's Derived/Test/ToyasCard.lean, 'card_holds'). Laid BY PROGRAM, IN A SANDBOX (cutbox-door.mjs). By AI agents, Wed Nov 11 2026. No macro, syntax, notation, axiom, sorry.
-/
import Derived.Test.YtjjjpakgnipghaaDoorRows
import GoSem.ClaimSeven
namespace Go.Proofs.YtjjjpakgnipghaaDoor
namespace Rows

/-- THE TIED CARD OF 'laws.FnThresholdMonotone'. -/
def fnThresholdMonotoneCard : Claim7 := { stood := { row := fnThresholdMonotoneRow, standIns := [], harness := (true, "40caf4efb2ca752c03db9daaaf46902edf68caf0c5a04974ee66bdee26e62e63"), looks := true }, kinds := [], alts := [], laidByText := true, laidKinds := [.data, .data, .data], laidTests := true, laidLooks := .later }
def FnThresholdMonotoneCardSaid : Prop := Claim7.holds Tryd.pinned (.plain (OpenSpec.ofChange fnThresholdMonotoneSpec)) fnThresholdMonotoneCard

/-- THE TIED CARD OF 'laws.FnThreshold'. -/
def fnThresholdCard : Claim7 := { stood := { row := fnThresholdRow, standIns := [], harness := (true, "40caf4efb2ca752c03db9daaaf46902edf68caf0c5a04974ee66bdee26e62e63"), looks := true }, kinds := [], alts := [], laidByText := true, laidKinds := [.data, .data, .data], laidTests := true, laidLooks := .later }
def FnThresholdCardSaid : Prop := Claim7.holds Tryd.pinned (.plain (OpenSpec.ofChange fnThresholdSpec)) fnThresholdCard

/-- THE TIED CARD OF 'laws.FnWeightsUniform'. -/
def fnWeightsUniformCard : Claim7 := { stood := { row := fnWeightsUniformRow, standIns := [], harness := (true, "40caf4efb2ca752c03db9daaaf46902edf68caf0c5a04974ee66bdee26e62e63"), looks := true }, kinds := [], alts := [], laidByText := true, laidKinds := [.data, .data, .data], laidTests := true, laidLooks := .later }
def FnWeightsUniformCardSaid : Prop := Claim7.holds Tryd.pinned (.plain (OpenSpec.ofChange fnWeightsUniformSpec)) fnWeightsUniformCard

/-- THE SECOND FORM's CARD OF 'laws.FnThresholdMonotone'. -/
def fnThresholdMonotoneUptoCard : Claim7 := { stood := { row := fnThresholdMonotoneUptoRow, standIns := [], harness := (true, "40caf4efb2ca752c03db9daaaf46902edf68caf0c5a04974ee66bdee26e62e63"), looks := true }, kinds := [], alts := [], laidByText := true, laidKinds := [.data, .data, .data], laidTests := true, laidLooks := .later }
def FnThresholdMonotoneUptoCardSaid : Prop := Claim7.holds Tryd.pinned (.plain (OpenSpec.upto fnThresholdMonotoneSpec)) fnThresholdMonotoneUptoCard

/-- THE SECOND FORM's CARD OF 'laws.FnThreshold'. -/
def fnThresholdUptoCard : Claim7 := { stood := { row := fnThresholdUptoRow, standIns := [], harness := (true, "40caf4efb2ca752c03db9daaaf46902edf68caf0c5a04974ee66bdee26e62e63"), looks := true }, kinds := [], alts := [], laidByText := true, laidKinds := [.data, .data, .data], laidTests := true, laidLooks := .later }
def FnThresholdUptoCardSaid : Prop := Claim7.holds Tryd.pinned (.plain (OpenSpec.upto fnThresholdSpec)) fnThresholdUptoCard

/-- THE SECOND FORM's CARD OF 'laws.FnWeightsUniform'. -/
def fnWeightsUniformUptoCard : Claim7 := { stood := { row := fnWeightsUniformUptoRow, standIns := [], harness := (true, "40caf4efb2ca752c03db9daaaf46902edf68caf0c5a04974ee66bdee26e62e63"), looks := true }, kinds := [], alts := [], laidByText := true, laidKinds := [.data, .data, .data], laidTests := true, laidLooks := .later }
def FnWeightsUniformUptoCardSaid : Prop := Claim7.holds Tryd.pinned (.plain (OpenSpec.upto fnWeightsUniformSpec)) fnWeightsUniformUptoCard
end Rows
end Go.Proofs.YtjjjpakgnipghaaDoor
